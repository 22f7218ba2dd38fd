/- The reference's number, next and Open. -/
import Derived.Test.YtoghaehcmbonnaaGreatDoorJrnW
import Derived.Test.YtoghaehcmbonnaaGreatDoorJrnX
import Derived.Test.YtoghaehcmbonnaaGreatDoorJrnI
import Derived.Test.YtoghaehcmbonnaaGreatDoorJrnH
namespace Go.Proofs.YtoghaehcmbonnaaGreatDoor
open Go.RowKit
set_option maxRecDepth 100000
attribute [local go_sem] ext_refl_t ext_alloc_t ext_drew_t ext_drewN_t ext_alloc2_t ext_alloc3_t ext_alloc4_t ext_alloc5_t ext_alloc6_t ext_alloc7_t ext_alloc8_t ext_alloc1d_t ext_alloc2d_t ext_alloc3d_t ext_alloc4d_t
theorem decNum_lt (i : Nat) : ∀ l : List UInt8, l.length = i → (∀ b ∈ l, digB b = true) → decNum l < 10 ^ i := by
  induction i with
  | zero => intro l hl _; rw [List.eq_nil_of_length_eq_zero hl]; exact Nat.one_pos
  | succ i ih =>
    intro l hl hd
    have hne : l ≠ [] := fun e => by rw [e] at hl; cases hl
    obtain ⟨u, x, rfl⟩ : ∃ u x, l = u ++ [x] := ⟨l.dropLast, l.getLast hne, (List.dropLast_concat_getLast hne).symm⟩
    have hu : u.length = i := by rw [List.length_append] at hl; simp at hl; exact hl
    have hx := hd x (by simp)
    unfold digB at hx
    rw [decide_eq_true_iff] at hx
    have h1 := ih u hu (fun b hb => hd b (List.mem_append_left _ hb))
    rw [decNum_snoc, Nat.pow_succ]
    omega
/-- What number returns. -/
def numV (l : List UInt8) : Int := if l.all digB = true then (decNum l : Int) else 0
def numO (l : List UInt8) : Bool := l.all digB
section
variable {w : World}
set_option maxHeartbeats 3200000 in
theorem rnumber_any {A : Option Addr} {m : Nat} (c : Nat) {l : List UInt8} (hs : SlB w A m l) (hm : m ≤ 8) :
    Calls Tryz.prog 43 #[.slice A m c] w fun e w' => e = .returned (.tuple #[.int .i64 (numV l), .bool (numO l)]) ∧ Ext w w' := by
  have HL := Lib.hid hs.len
  go_enter Tryz.func43, Tryz.ntmps43
  go_wp2
  go_loopw [4, 5] (fun v i wr => ∃ q : Nat, q ≤ m ∧ i = .int .i64 q ∧ v = .int .i64 (decNum (l.take q) : Nat) ∧ Hid (∀ b ∈ l.take q, digB b = true) ∧ Hid (Ext w wr)) (fun _ i _ => m - (intOf i).toNat)
  case atStart => exact ⟨0, Nat.zero_le _, rfl, rfl, (fun b hb => by simp at hb), Ext.refl _⟩
  case round =>
    obtain ⟨q, hq, rfl, rfl, HD, HE⟩ := hrel
    by_cases hlt : q < m
    · obtain ⟨bq, off, rfl, _, hc⟩ := (hs.ext HE.out).at_ (show 0 < m by omega)
      have hql : q < l.length := by rw [← HL.out]; exact hlt
      have h1 := hc q hql
      obtain ⟨b, hb⟩ : ∃ b, b = l[q] := ⟨_, rfl⟩
      rw [← hb] at h1
      have hMT : l.take (q + 1) = l.take q ++ [b] := by rw [hb, List.take_succ_eq_append_getElem hql]
      have hlen : (l.take q).length = q := by rw [List.length_take]; omega
      have hlt2 := decNum_lt q (l.take q) hlen HD.out
      have h10 : 10 ^ q ≤ 10 ^ 8 := Nat.pow_le_pow_right (by omega) (by omega)
      have h108 : (10 : Nat) ^ 8 = 100000000 := by decide
      obtain ⟨v, hv⟩ : ∃ v, v = decNum (l.take q) := ⟨_, rfl⟩
      rw [← hv] at hlt2 ⊢
      have hvb : (v : Int) ≤ 100000000 := by omega
      have hv0 : (0 : Int) ≤ (v : Int) := by omega
      have HMT := Lib.hid hMT
      have hb8 := b.toNat_lt
      have hmi : (q : Int) < (m : Int) := by omega
      have HBM : Hid (b ∈ l) := by rw [hb]; exact List.getElem_mem hql
      have HNX : Hid (decNum (l.take (q + 1)) = 10 * v + (b.toNat - 48)) := by show _ = _; rw [HMT.out, decNum_snoc, hv]
      clear hc hb hMT hlen hlt2 h10 h108 hv
      by_cases hd : 48 ≤ b.toNat ∧ b.toNat ≤ 57
      · have i1 : ¬ (b.toNat : Int) < 48 := by omega
        have i2 : ¬ (57 : Int) < (b.toNat : Int) := by omega
        have i3 : (48 : Int) ≤ (b.toNat : Int) := by omega
        have i4 : (b.toNat : Int) ≤ 57 := by omega
        have HD2 : Hid (∀ x ∈ l.take (q + 1), digB x = true) := fun x hx => by
          rw [HMT.out, List.mem_append, List.mem_singleton] at hx
          rcases hx with hx | rfl
          · exact HD.out x hx
          · unfold digB; exact decide_eq_true hd
        have HN2 : Hid (((decNum (l.take (q + 1)) : Nat) : Int) = 10 * (v : Int) + ((b.toNat : Int) - 48)) := by show _ = _; rw [HNX.out]; omega
        clear hd
        go_wp2
        go_roundw
        case rel => exact ⟨q + 1, by omega, by go_num, by rw [HN2.out], HD2, HE⟩
        case measure => simp [intOf]; omega
      · have HF0 : l.all digB = false := by
          cases ha : l.all digB with
          | false => rfl
          | true =>
            have h2 := List.all_eq_true.1 ha b HBM.out
            unfold digB at h2
            rw [decide_eq_true_iff] at h2
            exact absurd h2 hd
        have HF : Hid (numO l = false ∧ numV l = 0) := ⟨HF0, by unfold numV; rw [if_neg (by rw [HF0]; simp)]⟩
        clear HF0
        by_cases hd1 : b.toNat < 48
        · have i1 : (b.toNat : Int) < 48 := by omega
          clear hd
          go_wp2
          go_ret2
          exact ⟨by rw [HF.out.1, HF.out.2]; rfl, HE.out⟩
        · have i1 : ¬ (b.toNat : Int) < 48 := by omega
          have i2 : (57 : Int) < (b.toNat : Int) := by omega
          clear hd
          go_wp2
          go_ret2
          exact ⟨by rw [HF.out.1, HF.out.2]; rfl, HE.out⟩
    · have hqe : l.take q = l := List.take_of_length_le (by rw [← HL.out]; omega)
      rw [hqe] at HD ⊢
      have hmi : ¬ (q : Int) < (m : Int) := by omega
      have HF : Hid (numO l = true ∧ numV l = (decNum l : Int)) := ⟨List.all_eq_true.2 HD.out, by unfold numV; rw [if_pos (List.all_eq_true.2 HD.out)]⟩
      clear hqe
      go_wp2
      go_ret2
      exact ⟨by rw [HF.out.1, HF.out.2]; rfl, HE.out⟩
end
theorem results_cell3 {fn : Func} {p u v : Tmp} {ty : TypeId} (h : fn.results = #[.cell p ty, .tmp u, .tmp v]) (tmps : Array Value) (P : Program) (w : World) :
    (results fn tmps).run P w =
      ((asAddr (tmps.getD p undef)).run P w).andThen fun a w₁ => ((loadVar ty a).run P w₁).andThen fun y w₂ => .ok (.tuple #[y, tmps.getD u undef, tmps.getD v undef]) w₂ := by
  simp only [results, h]
  simp [Sem.run_bind, Result.andThen]
theorem results_cell_row3 {P : Program} {fn : Func} {p u v : Tmp} {ty : TypeId} (h : fn.results = #[.cell p ty, .tmp u, .tmp v]) (tmps : Array Value) (w : World) (g : Nat) (t : TypeId) (cs : Array Value) (fr : Nat × Nat) (d : TypeDesc)
    (hp : tmps.getD p undef = .pointer (some ⟨g, 0, none⟩)) (hg : w.heap[g]? = some (.cells cs t fr))
    (hu : P.underlying ty = some d) (hd : (match d with | .struct _ | .array _ _ => true | _ => false) = true) (hi : (P.info? ty).map (·.size) = some cs.size) :
    (results fn tmps).run P w = .ok (.tuple #[.agg cs, tmps.getD u undef, tmps.getD v undef]) w := by
  rw [results_cell3 h, hp]
  simp [asAddr, run_loadVar_row w g t ty cs fr d hg hu hd hi, Result.andThen]
/-- What next returns. -/
def NxR (l : List UInt8) (k : Nat) (e : Ending) : Prop := ∃ n : Nat, e = .returned (.tuple #[evV (nextJ l k).1, .int .i64 n, .int .i64 (nextJ l k).2.2]) ∧ ((nextJ l k).2.2 = 0 → n = (nextJ l k).2.1)
theorem NxR.none_ {l : List UInt8} {k : Nat} (h : hdrJ l = none) : NxR l k (.returned (.tuple #[evV ev0, .int .i64 0, .int .i64 4])) := by
  have h1 : nextJ l k = (ev0, 0, 4) := by unfold nextJ; rw [h]
  exact ⟨0, by rw [h1]; rfl, fun _ => by rw [h1]⟩
theorem NxR.short_ {l : List UInt8} {k n : Nat} (h : hdrJ l = some n) (hl : l.length < 18 + n + 8) : NxR l k (.returned (.tuple #[evV ev0, .int .i64 0, .int .i64 4])) := by
  have h1 : nextJ l k = (ev0, 0, 4) := by unfold nextJ; rw [h]; dsimp only; rw [if_pos hl]
  exact ⟨0, by rw [h1]; rfl, fun _ => by rw [h1]⟩
theorem openR_code (k : Nat) (s : List UInt8) (h8 : 8 ≤ s.length) : (openR k s).2 = 0 ∨ (openR k s).2 = 5 := by
  unfold openR
  rw [if_neg (by omega)]
  split
  · exact .inl rfl
  · exact .inr rfl
theorem frame_at (n : Nat) (i : Nat) (b : UInt8) (l : List UInt8) (hl : i < l.length) (hi : i < 18) (h : l.take 18 = frameH n) (hf : (frameH n)[i]? = some b) : l[i] = b := by
  have h1 : (l.take 18)[i]? = some b := by rw [h]; exact hf
  rw [List.getElem?_take_of_lt hi, List.getElem?_eq_getElem hl] at h1
  exact Option.some.inj h1
theorem frameH_8 (n : Nat) : (frameH n)[8]? = some 61 := by
  unfold frameH
  rw [List.getElem?_append_right (by rw [eight8_length]; exact Nat.le_refl _), eight8_length]
  rfl
theorem frameH_17 (n : Nat) : (frameH n)[17]? = some 10 := by
  unfold frameH
  rw [List.getElem?_append_right (by rw [eight8_length]; omega), eight8_length, List.getElem?_append_right (by simp), List.getElem?_append_right (by rw [eight8_length]; simp), eight8_length]
  rfl
theorem frameH_mid (n : Nat) : ((frameH n).take 17).drop 9 = eight8 n := by
  obtain ⟨a0, a1, a2, a3, a4, a5, a6, a7, ha⟩ := list8 (eight8_length n)
  unfold frameH
  rw [ha]
  rfl
/-- A header, taken apart. -/
theorem hdrJ_parts {l : List UInt8} (h18 : 18 ≤ l.length) (h8 : l[8] = 61) (h17 : l[17] = 10) (he : l.take 8 = (l.take 17).drop 9) (hd : numO (l.take 8) = true) (hm : decNum (l.take 8) ≤ 300000) : hdrJ l = some (decNum (l.take 8)) := by
  refine hdrJ_iff.2 ⟨hm, ?_⟩
  have h88 : (l.take 8).length = 8 := by rw [List.length_take]; omega
  have hp : eight8 (decNum (l.take 8)) = l.take 8 := padL_of 8 _ h88 (List.all_eq_true.1 hd)
  unfold frameH
  rw [hp]
  apply List.ext_getElem?
  intro i
  by_cases hi : i < 18
  · rw [List.getElem?_take_of_lt hi]
    by_cases hi8 : i < 8
    · rw [List.getElem?_append_left (by omega), List.getElem?_take_of_lt hi8]
    · rw [List.getElem?_append_right (by omega), h88]
      by_cases hie : i = 8
      · subst hie
        rw [List.getElem?_eq_getElem (by omega), h8]
        rfl
      · rw [List.getElem?_append_right (by simp; omega)]
        by_cases hi17 : i < 17
        · rw [List.getElem?_append_left (by rw [h88]; simp; omega), he, List.getElem?_drop, List.getElem?_take_of_lt (by simp; omega)]
          congr 1
          simp
          omega
        · have hi2 : i = 17 := by omega
          subst hi2
          rw [List.getElem?_append_right (by rw [h88]; simp), h88, List.getElem?_eq_getElem (by omega), h17]
          rfl
  · rw [List.getElem?_eq_none (by rw [List.length_take]; omega), List.getElem?_eq_none (by simp only [List.length_append, h88]; simp; omega)]
section
variable {w : World}
set_option maxHeartbeats 6400000 in
theorem rnext_any {k : Nat} (hk : k < 18446744073709551616) {A : Option Addr} {m : Nat} (c : Nat) {l : List UInt8} (hs : SlB w A m l) (hmc : m ≤ c) (hm : m ≤ 1000000) :
    Calls Tryz.prog 25 #[.slice A m c, .int .u64 (k : Int)] w fun e w' => NxR l k e ∧ Ext w w' := by
  have HL := Lib.hid hs.len
  have hE0 : Ext w (w.alloc (Obj.cells #[.int .i64 0, .string ⟨#[]⟩, .string ⟨#[]⟩, .string ⟨#[]⟩, .string ⟨#[]⟩, .int .i64 0, .int .i64 0, .int .i64 0] 46)) := (Ext.refl w).alloc _
  have hb0 := Blk.new w 46 #[.int .i64 0, .string ⟨#[]⟩, .string ⟨#[]⟩, .string ⟨#[]⟩, .string ⟨#[]⟩, .int .i64 0, .int .i64 0, .int .i64 0]
  obtain ⟨W0, hW0⟩ : ∃ W0, W0 = w.alloc (Obj.cells #[.int .i64 0, .string ⟨#[]⟩, .string ⟨#[]⟩, .string ⟨#[]⟩, .string ⟨#[]⟩, .int .i64 0, .int .i64 0, .int .i64 0] 46) := ⟨_, rfl⟩
  obtain ⟨gr, hgr⟩ : ∃ gr, gr = w.heap.size := ⟨_, rfl⟩
  rw [← hW0] at hE0 hb0
  rw [← hgr] at hb0
  have HB0 : Hid (∀ n, Blk (W0.drewN n) gr 46 #[.int .i64 0, .string ⟨#[]⟩, .string ⟨#[]⟩, .string ⟨#[]⟩, .string ⟨#[]⟩, .int .i64 0, .int .i64 0, .int .i64 0]) := fun n => hb0.drewN n
  have HGR := Lib.hid hgr
  go_enter Tryz.func25, Tryz.ntmps25
  go_upto_region 1 with fail
  rw [← hW0, ← hgr]
  have hs0 := hs.ext hE0
  clear hW0 hgr hb0
  by_cases h18 : m < 18
  · have i1 : (m : Int) < 18 := by omega
    have i2 : decide ((m : Int) < 18) = true := decide_eq_true i1
    have HF : Hid (NxR l k (.returned (.tuple #[evV ev0, .int .i64 0, .int .i64 4]))) := NxR.none_ (hdrJ_none (by rw [← HL.out]; exact h18))
    clear h18
    go_quiet (fail)
    have HBR := Lib.hid (HB0.out nq)
    have HEZ : Hid (Ext w (W0.drewN nq)) := hE0.drewN nq
    have hrb := HBR.out
    have k0 := hrb.cell 0
    have k1 := hrb.cell 1
    have k2 := hrb.cell 2
    have k3 := hrb.cell 3
    have k4 := hrb.cell 4
    have k5 := hrb.cell 5
    have k6 := hrb.cell 6
    have k7 := hrb.cell 7
    have m0 := hrb.frozen 0
    have m1' := hrb.frozen 1
    have m2' := hrb.frozen 2
    have m3' := hrb.frozen 3
    have m4' := hrb.frozen 4
    have m5' := hrb.frozen 5
    have m6' := hrb.frozen 6
    have m7' := hrb.frozen 7
    clear hrb
    go_wp2
    refine bodyPost_ret (results_cell_row3 rfl _ _ gr 46 _ (0, 0) _ rfl ((((((((HBR.out.set_ 0 _).set_ 1 _).set_ 2 _).set_ 3 _).set_ 4 _).set_ 5 _).set_ 6 _).set_ 7 _) Tryz.underlying46 rfl info_ev8) rfl ?_
    refine ⟨HF.out, ?_⟩
    iterate 8 refine Ext.set_ ?_ (by show w.heap.size ≤ gr; rw [HGR.out]; exact Nat.le_refl _) _
    exact HEZ.out
  have i1 : ¬ (m : Int) < 18 := by omega
  have i2 : decide ((m : Int) < 18) = false := decide_eq_false i1
  have i3 : (8 : Int) < (m : Int) := by omega
  have i4 : (17 : Int) < (m : Int) := by omega
  have i5 : (9 : Int) ≤ (m : Int) := by omega
  have i6 : (17 : Int) ≤ (m : Int) := by omega
  have i7 : (8 : Int) ≤ (m : Int) := by omega
  have hl18 : 18 ≤ l.length := by rw [← HL.out]; omega
  obtain ⟨bq, off, hA, _, hc⟩ := hs0.at_ (show 0 < m by omega)
  have c8 := hc 8 (by omega)
  have c17 := hc 17 (by omega)
  obtain ⟨A1, _, _, u1, hs1, _⟩ := cut_run hs0 (i := 0) (j := 8) (by omega) (by omega) hmc
  obtain ⟨A2, u2, _, _, hs2, _⟩ := cut_run hs0 (i := 9) (j := 17) (by omega) (by omega) hmc
  have q1 := fun W => u1 W .i64 8 rfl rfl
  have q2 := fun W => u2 W .i64 .i64 9 17 rfl rfl
  rw [Nat.sub_zero, List.drop_zero] at hs1
  simp only [Nat.sub_zero] at q1
  obtain ⟨s1, hs1d⟩ : ∃ s1, s1 = str (l.take 8) := ⟨_, rfl⟩
  obtain ⟨s2, hs2d⟩ : ∃ s2, s2 = str ((l.take 17).drop 9) := ⟨_, rfl⟩
  have hv1 : ∀ n, (convert 22 9 (.slice A1 8 c)).run Tryz.prog (W0.drewN n) = .ok (.string s1) (W0.drewN n) := fun n => by rw [hs1d]; exact conv_str (hs1.ext ((Ext.refl _).drewN n)) _
  have hv2 : ∀ n, (convert 22 9 (.slice A2 (17 - 9) (c - 9))).run Tryz.prog (W0.drewN n) = .ok (.string s2) (W0.drewN n) := fun n => by rw [hs2d]; exact conv_str (hs2.ext ((Ext.refl _).drewN n)) _
  have HSS : Hid (s1 = s2 ↔ l.take 8 = (l.take 17).drop 9) := by
    show _ ↔ _
    rw [hs1d, hs2d]
    exact ⟨fun e => by have h2 := congrArg bys e; rwa [bys_str, bys_str] at h2, fun e => by rw [e]⟩
  have HS0 := Lib.hid hs0
  have HS1 := Lib.hid hs1
  have HA := Lib.hid hA
  subst hA
  clear hc u1 u2 hs1d hs2d hs0 hs1 hs2 h18
  by_cases h8 : l[8] = 61
  case neg =>
    have HF : Hid (NxR l k (.returned (.tuple #[evV ev0, .int .i64 0, .int .i64 4]))) := by
      refine NxR.none_ ?_
      cases hh : hdrJ l with
      | none => rfl
      | some n => exact absurd (frame_at n 8 61 l (by omega) (by omega) (hdrJ_iff.1 hh).2 (frameH_8 n)) h8
    obtain ⟨z, hzd⟩ : ∃ z : Int, z = (l[8].toNat : Int) := ⟨_, rfl⟩
    have hz : ¬ z = 61 := fun e => h8 (UInt8.toNat_inj.1 (by show l[8].toNat = 61; omega))
    have c8' : W0.cell? ⟨bq, off + 8, none⟩ = some (.int .u8 z) := by rw [hzd]; exact c8
    have hz1 : (z == 61) = false := by simp [hz]
    have hz2 : decide (z = 61) = false := decide_eq_false hz
    have hz3 : (z != 61) = true := by simp [hz]
    clear h8 c8 c17 hzd
    go_quiet (fail)
    have HBR := Lib.hid (HB0.out nq)
    have HEZ : Hid (Ext w (W0.drewN nq)) := hE0.drewN nq
    have hrb := HBR.out
    have k0 := hrb.cell 0
    have k1 := hrb.cell 1
    have k2 := hrb.cell 2
    have k3 := hrb.cell 3
    have k4 := hrb.cell 4
    have k5 := hrb.cell 5
    have k6 := hrb.cell 6
    have k7 := hrb.cell 7
    have m0 := hrb.frozen 0
    have m1' := hrb.frozen 1
    have m2' := hrb.frozen 2
    have m3' := hrb.frozen 3
    have m4' := hrb.frozen 4
    have m5' := hrb.frozen 5
    have m6' := hrb.frozen 6
    have m7' := hrb.frozen 7
    clear hrb
    go_wp2
    refine bodyPost_ret (results_cell_row3 rfl _ _ gr 46 _ (0, 0) _ rfl ((((((((HBR.out.set_ 0 _).set_ 1 _).set_ 2 _).set_ 3 _).set_ 4 _).set_ 5 _).set_ 6 _).set_ 7 _) Tryz.underlying46 rfl info_ev8) rfl ?_
    refine ⟨HF.out, ?_⟩
    iterate 8 refine Ext.set_ ?_ (by show w.heap.size ≤ gr; rw [HGR.out]; exact Nat.le_refl _) _
    exact HEZ.out
  have c8' : W0.cell? ⟨bq, off + 8, none⟩ = some (.int .u8 61) := by rw [c8, h8]; rfl
  by_cases h17 : l[17] = 10
  case neg =>
    have HF : Hid (NxR l k (.returned (.tuple #[evV ev0, .int .i64 0, .int .i64 4]))) := by
      refine NxR.none_ ?_
      cases hh : hdrJ l with
      | none => rfl
      | some n => exact absurd (frame_at n 17 10 l (by omega) (by omega) (hdrJ_iff.1 hh).2 (frameH_17 n)) h17
    obtain ⟨z, hzd⟩ : ∃ z : Int, z = (l[17].toNat : Int) := ⟨_, rfl⟩
    have hz : ¬ z = 10 := fun e => h17 (UInt8.toNat_inj.1 (by show l[17].toNat = 10; omega))
    have c17' : W0.cell? ⟨bq, off + 17, none⟩ = some (.int .u8 z) := by rw [hzd]; exact c17
    have hz1 : (z == 10) = false := by simp [hz]
    have hz2 : decide (z = 10) = false := decide_eq_false hz
    have hz3 : (z != 10) = true := by simp [hz]
    clear h17 c8 c17 hzd
    go_quiet (fail)
    have HBR := Lib.hid (HB0.out nq)
    have HEZ : Hid (Ext w (W0.drewN nq)) := hE0.drewN nq
    have hrb := HBR.out
    have k0 := hrb.cell 0
    have k1 := hrb.cell 1
    have k2 := hrb.cell 2
    have k3 := hrb.cell 3
    have k4 := hrb.cell 4
    have k5 := hrb.cell 5
    have k6 := hrb.cell 6
    have k7 := hrb.cell 7
    have m0 := hrb.frozen 0
    have m1' := hrb.frozen 1
    have m2' := hrb.frozen 2
    have m3' := hrb.frozen 3
    have m4' := hrb.frozen 4
    have m5' := hrb.frozen 5
    have m6' := hrb.frozen 6
    have m7' := hrb.frozen 7
    clear hrb
    go_wp2
    refine bodyPost_ret (results_cell_row3 rfl _ _ gr 46 _ (0, 0) _ rfl ((((((((HBR.out.set_ 0 _).set_ 1 _).set_ 2 _).set_ 3 _).set_ 4 _).set_ 5 _).set_ 6 _).set_ 7 _) Tryz.underlying46 rfl info_ev8) rfl ?_
    refine ⟨HF.out, ?_⟩
    iterate 8 refine Ext.set_ ?_ (by show w.heap.size ≤ gr; rw [HGR.out]; exact Nat.le_refl _) _
    exact HEZ.out
  have c17' : W0.cell? ⟨bq, off + 17, none⟩ = some (.int .u8 10) := by rw [c17, h17]; rfl
  clear c8 c17
  by_cases he : s1 = s2
  case neg =>
    have HF : Hid (NxR l k (.returned (.tuple #[evV ev0, .int .i64 0, .int .i64 4]))) := by
      refine NxR.none_ ?_
      cases hh : hdrJ l with
      | none => rfl
      | some n =>
        exfalso
        apply he
        rw [HSS.out]
        have h2 := (hdrJ_iff.1 hh).2
        have h3 := congrArg (List.take 8) h2
        have h4 := congrArg (fun x => (List.take 17 x).drop 9) h2
        rw [List.take_take, frameH_take, show min 8 18 = 8 from rfl] at h3
        rw [List.take_take, frameH_mid, show min 17 18 = 17 from rfl] at h4
        rw [h3, h4]
    have hz := ba_neqJ he
    clear h8 h17 he
    go_quiet (fail)
    have HBR := Lib.hid (HB0.out nq)
    have HEZ : Hid (Ext w (W0.drewN nq)) := hE0.drewN nq
    have hrb := HBR.out
    have k0 := hrb.cell 0
    have k1 := hrb.cell 1
    have k2 := hrb.cell 2
    have k3 := hrb.cell 3
    have k4 := hrb.cell 4
    have k5 := hrb.cell 5
    have k6 := hrb.cell 6
    have k7 := hrb.cell 7
    have m0 := hrb.frozen 0
    have m1' := hrb.frozen 1
    have m2' := hrb.frozen 2
    have m3' := hrb.frozen 3
    have m4' := hrb.frozen 4
    have m5' := hrb.frozen 5
    have m6' := hrb.frozen 6
    have m7' := hrb.frozen 7
    clear hrb
    go_wp2
    refine bodyPost_ret (results_cell_row3 rfl _ _ gr 46 _ (0, 0) _ rfl ((((((((HBR.out.set_ 0 _).set_ 1 _).set_ 2 _).set_ 3 _).set_ 4 _).set_ 5 _).set_ 6 _).set_ 7 _) Tryz.underlying46 rfl info_ev8) rfl ?_
    refine ⟨HF.out, ?_⟩
    iterate 8 refine Ext.set_ ?_ (by show w.heap.size ≤ gr; rw [HGR.out]; exact Nat.le_refl _) _
    exact HEZ.out
  have H8 := Lib.hid h8
  have H17 := Lib.hid h17
  have HEE := Lib.hid (HSS.out.1 he)
  clear h8 h17
  subst he
  go_quiet (fail)
  obtain ⟨W5, hW5⟩ : ∃ W5, W5 = W0.drewN nq := ⟨_, rfl⟩
  have hE05 : Ext w W5 := by rw [hW5]; exact hE0.drewN nq
  have hEd : Ext W0 W5 := by rw [hW5]; exact (Ext.refl _).drewN nq
  have HB5 : Hid (Blk W5 gr 46 #[.int .i64 0, .string ⟨#[]⟩, .string ⟨#[]⟩, .string ⟨#[]⟩, .string ⟨#[]⟩, .int .i64 0, .int .i64 0, .int .i64 0]) := by show Blk _ _ _ _; rw [hW5]; exact HB0.out nq
  have hs15 := HS1.out.ext hEd
  have hs05 := HS0.out.ext hEd
  rw [← hW5]
  clear hW5 hv1 hv2 c8' c17' q2
  go_wp2_with (first
    | (go_at_call 43; refine Hid.out ?_))
  refine Hid.mk_ ((rnumber_any c hs15 (by omega)).mono ?_)
  rintro e w6 ⟨rfl, hE6⟩
  have hE06 := hE05.trans hE6
  have HB6 : Hid (Blk w6 gr 46 #[.int .i64 0, .string ⟨#[]⟩, .string ⟨#[]⟩, .string ⟨#[]⟩, .string ⟨#[]⟩, .int .i64 0, .int .i64 0, .int .i64 0]) := HB5.out.below hE6 HB5.out.lt
  have HT8 : Hid (∀ n, hdrJ l = some n → l.take 8 = eight8 n) := fun n hh => by
    have h3 := congrArg (List.take 8) (hdrJ_iff.1 hh).2
    rwa [List.take_take, frameH_take, show min 8 18 = 8 from rfl] at h3
  clear hs15
  cases hO : numO (l.take 8) with
  | false =>
    have HF : Hid (NxR l k (.returned (.tuple #[evV ev0, .int .i64 0, .int .i64 4]))) := by
      refine NxR.none_ ?_
      cases hh : hdrJ l with
      | none => rfl
      | some n =>
        exfalso
        rw [HT8.out n hh] at hO
        unfold numO at hO
        have h9 : (eight8 n).all digB = true := List.all_eq_true.2 (padL_dig 8 n)
        rw [h9] at hO
        cases hO
    have HBR := HB6
    have HEZ := Lib.hid hE06
    clear hO
    have hrb := HBR.out
    have k0 := hrb.cell 0
    have k1 := hrb.cell 1
    have k2 := hrb.cell 2
    have k3 := hrb.cell 3
    have k4 := hrb.cell 4
    have k5 := hrb.cell 5
    have k6 := hrb.cell 6
    have k7 := hrb.cell 7
    have m0 := hrb.frozen 0
    have m1' := hrb.frozen 1
    have m2' := hrb.frozen 2
    have m3' := hrb.frozen 3
    have m4' := hrb.frozen 4
    have m5' := hrb.frozen 5
    have m6' := hrb.frozen 6
    have m7' := hrb.frozen 7
    clear hrb
    go_wp2
    refine bodyPost_ret (results_cell_row3 rfl _ _ gr 46 _ (0, 0) _ rfl ((((((((HBR.out.set_ 0 _).set_ 1 _).set_ 2 _).set_ 3 _).set_ 4 _).set_ 5 _).set_ 6 _).set_ 7 _) Tryz.underlying46 rfl info_ev8) rfl ?_
    refine ⟨HF.out, ?_⟩
    iterate 8 refine Ext.set_ ?_ (by show w.heap.size ≤ gr; rw [HGR.out]; exact Nat.le_refl _) _
    exact HEZ.out
  | true =>
  have hV : numV (l.take 8) = (decNum (l.take 8) : Int) := by unfold numV; rw [if_pos (show (l.take 8).all digB = true from hO)]
  rw [hV]
  obtain ⟨n, hn⟩ : ∃ n, n = decNum (l.take 8) := ⟨_, rfl⟩
  rw [← hn]
  by_cases hn3 : 300000 < n
  · have HF : Hid (NxR l k (.returned (.tuple #[evV ev0, .int .i64 0, .int .i64 4]))) := by
      refine NxR.none_ ?_
      cases hh : hdrJ l with
      | none => rfl
      | some n2 =>
        exfalso
        have h1 := (hdrJ_iff.1 hh).1
        rw [HT8.out n2 hh, eight8_num (by omega)] at hn
        omega
    have hi1 : (300000 : Int) < (n : Int) := by omega
    have HBR := HB6
    have HEZ := Lib.hid hE06
    clear hO hV hn hn3
    have hrb := HBR.out
    have k0 := hrb.cell 0
    have k1 := hrb.cell 1
    have k2 := hrb.cell 2
    have k3 := hrb.cell 3
    have k4 := hrb.cell 4
    have k5 := hrb.cell 5
    have k6 := hrb.cell 6
    have k7 := hrb.cell 7
    have m0 := hrb.frozen 0
    have m1' := hrb.frozen 1
    have m2' := hrb.frozen 2
    have m3' := hrb.frozen 3
    have m4' := hrb.frozen 4
    have m5' := hrb.frozen 5
    have m6' := hrb.frozen 6
    have m7' := hrb.frozen 7
    clear hrb
    go_wp2
    refine bodyPost_ret (results_cell_row3 rfl _ _ gr 46 _ (0, 0) _ rfl ((((((((HBR.out.set_ 0 _).set_ 1 _).set_ 2 _).set_ 3 _).set_ 4 _).set_ 5 _).set_ 6 _).set_ 7 _) Tryz.underlying46 rfl info_ev8) rfl ?_
    refine ⟨HF.out, ?_⟩
    iterate 8 refine Ext.set_ ?_ (by show w.heap.size ≤ gr; rw [HGR.out]; exact Nat.le_refl _) _
    exact HEZ.out
  have hi1 : ¬ (300000 : Int) < (n : Int) := by omega
  have hn3' : n ≤ 300000 := by omega
  have HH : Hid (hdrJ l = some n) := by
    show _ = _
    rw [hn]
    exact hdrJ_parts hl18 H8.out H17.out HEE.out hO (by rw [← hn]; exact hn3')
  clear hO hV hn hn3 HT8
  by_cases hsh : m < 18 + n + 8
  · have hi2 : (m : Int) < 18 + (n : Int) + 8 := by omega
    have HF : Hid (NxR l k (.returned (.tuple #[evV ev0, .int .i64 0, .int .i64 4]))) := NxR.short_ HH.out (by rw [← HL.out]; exact hsh)
    have HBR := HB6
    have HEZ := Lib.hid hE06
    clear hsh
    have hrb := HBR.out
    have k0 := hrb.cell 0
    have k1 := hrb.cell 1
    have k2 := hrb.cell 2
    have k3 := hrb.cell 3
    have k4 := hrb.cell 4
    have k5 := hrb.cell 5
    have k6 := hrb.cell 6
    have k7 := hrb.cell 7
    have m0 := hrb.frozen 0
    have m1' := hrb.frozen 1
    have m2' := hrb.frozen 2
    have m3' := hrb.frozen 3
    have m4' := hrb.frozen 4
    have m5' := hrb.frozen 5
    have m6' := hrb.frozen 6
    have m7' := hrb.frozen 7
    clear hrb
    go_wp2
    refine bodyPost_ret (results_cell_row3 rfl _ _ gr 46 _ (0, 0) _ rfl ((((((((HBR.out.set_ 0 _).set_ 1 _).set_ 2 _).set_ 3 _).set_ 4 _).set_ 5 _).set_ 6 _).set_ 7 _) Tryz.underlying46 rfl info_ev8) rfl ?_
    refine ⟨HF.out, ?_⟩
    iterate 8 refine Ext.set_ ?_ (by show w.heap.size ≤ gr; rw [HGR.out]; exact Nat.le_refl _) _
    exact HEZ.out
  have hi2 : ¬ (m : Int) < 18 + (n : Int) + 8 := by omega
  have HSH : Hid (¬ l.length < 18 + n + 8) := by show ¬ _; rw [← HL.out]; exact hsh
  obtain ⟨A3, u3, _, _, hs3, _⟩ := cut_run hs05 (i := 18) (j := 18 + n + 8) (by omega) (by omega) hmc
  have q3 := fun W => u3 W .i64 .i64 18 (18 + (n : Int) + 8) rfl (by omega)
  have e1 : (l.take (18 + n + 8)).drop 18 = (l.drop 18).take (n + 8) := by rw [List.drop_take]; congr 1; omega
  rw [e1, show 18 + n + 8 - 18 = n + 8 by omega] at hs3
  simp only [show 18 + n + 8 - 18 = n + 8 by omega] at q3
  obtain ⟨c1, hc1⟩ : ∃ c1, c1 = c - 18 := ⟨_, rfl⟩
  rw [← hc1] at q3
  have hmc1 : n + 8 ≤ c1 := by omega
  obtain ⟨⟨p, ob⟩, hoc⟩ : ∃ oc, oc = openR k ((l.drop 18).take (n + 8)) := ⟨_, rfl⟩
  have hob : ob = 0 ∨ ob = 5 := by
    have h1 := openR_code k ((l.drop 18).take (n + 8)) (by rw [← hs3.len]; omega)
    rw [← hoc] at h1
    exact h1
  have hpl : ob = 0 → p.length = n := fun h => by
    subst h
    have h1 := congrArg List.length (openR_ok hoc.symm)
    rw [sealL_len, ← hs3.len] at h1
    omega
  have hop := refOpen_any k c1 hk (hs3.ext hE6) hmc1 (by omega)
  rw [← hoc] at hop
  dsimp only at hop
  have HOC := Lib.hid hoc
  clear u3 e1 hs3 hc1 hmc1 hoc hsh hs05
  go_wp2_with (first
    | (go_at_call 44; refine Hid.out ?_))
  refine Hid.mk_ ((hop).mono ?_)
  rintro e w7 ⟨A7, m7, c7, rfl, hs7, hE7⟩
  have hE07 := hE06.trans hE7
  have HB7 : Hid (Blk w7 gr 46 #[.int .i64 0, .string ⟨#[]⟩, .string ⟨#[]⟩, .string ⟨#[]⟩, .string ⟨#[]⟩, .int .i64 0, .int .i64 0, .int .i64 0]) := HB6.out.below hE7 HB6.out.lt
  clear hop
  rcases hob with rfl | rfl
  case inr =>
    have HF : Hid (NxR l k (.returned (.tuple #[evV ev0, .int .i64 0, .int .i64 5]))) := by
      have h1 : nextJ l k = (ev0, 0, 5) := by
        unfold nextJ
        rw [HH.out]
        dsimp only
        rw [if_neg HSH.out, ← HOC.out, if_pos (by simp)]
        rfl
      exact ⟨0, by rw [h1]; rfl, fun _ => by rw [h1]⟩
    have HBR := HB7
    have HEZ := Lib.hid hE07
    clear hs7 hpl
    have hrb := HBR.out
    have k0 := hrb.cell 0
    have k1 := hrb.cell 1
    have k2 := hrb.cell 2
    have k3 := hrb.cell 3
    have k4 := hrb.cell 4
    have k5 := hrb.cell 5
    have k6 := hrb.cell 6
    have k7 := hrb.cell 7
    have m0 := hrb.frozen 0
    have m1' := hrb.frozen 1
    have m2' := hrb.frozen 2
    have m3' := hrb.frozen 3
    have m4' := hrb.frozen 4
    have m5' := hrb.frozen 5
    have m6' := hrb.frozen 6
    have m7' := hrb.frozen 7
    clear hrb
    go_wp2
    refine bodyPost_ret (results_cell_row3 rfl _ _ gr 46 _ (0, 0) _ rfl ((((((((HBR.out.set_ 0 _).set_ 1 _).set_ 2 _).set_ 3 _).set_ 4 _).set_ 5 _).set_ 6 _).set_ 7 _) Tryz.underlying46 rfl info_ev8) rfl ?_
    refine ⟨HF.out, ?_⟩
    iterate 8 refine Ext.set_ ?_ (by show w.heap.size ≤ gr; rw [HGR.out]; exact Nat.le_refl _) _
    exact HEZ.out
  have hm7 : m7 ≤ 1000000 := by rw [hs7.len, hpl rfl]; omega
  have HND : Hid (nextJ l k = ((decE p).1, 18 + n + 8, (decE p).2)) := nextJ_dec HH.out HSH.out HOC.out.symm
  clear hpl
  go_wp2_with (first
    | (go_at_call 45; refine Hid.out ?_))
  refine Hid.mk_ ((rjdec_any c7 hs7 hm7).mono ?_)
  rintro e w8 ⟨rfl, hE8⟩
  obtain ⟨⟨y0, y1, y2, y3, y4, y5, y6, y7⟩, de, hdl⟩ : ∃ y de, decE p = (y, de) := ⟨_, _, rfl⟩
  have HF : Hid (NxR l k (.returned (.tuple #[evV ⟨y0, y1, y2, y3, y4, y5, y6, y7⟩, .int .i64 (18 + (n : Int) + 8), .int .i64 de]))) := by
    have h1 : nextJ l k = (⟨y0, y1, y2, y3, y4, y5, y6, y7⟩, 18 + n + 8, de) := by rw [HND.out, hdl]
    exact ⟨18 + n + 8, by rw [h1]; rfl, fun _ => by rw [h1]⟩
  rw [hdl]
  dsimp only
  unfold evV
  have hE08 := hE07.trans hE8
  have HBR : Hid (Blk (w8.alloc (Obj.cells #[.int .i64 y0, .string y1, .string y2, .string y3, .string y4, .int .i64 y5, .int .i64 y6, .int .i64 y7] 46)) gr 46 #[.int .i64 0, .string ⟨#[]⟩, .string ⟨#[]⟩, .string ⟨#[]⟩, .string ⟨#[]⟩, .int .i64 0, .int .i64 0, .int .i64 0]) := (HB7.out.below hE8 HB7.out.lt).alloc _
  have HEZ : Hid (Ext w (w8.alloc (Obj.cells #[.int .i64 y0, .string y1, .string y2, .string y3, .string y4, .int .i64 y5, .int .i64 y6, .int .i64 y7] 46))) := hE08.alloc _
  clear hdl HND hs7 q1 q3
  have hrb := HBR.out
  have k0 := hrb.cell 0
  have k1 := hrb.cell 1
  have k2 := hrb.cell 2
  have k3 := hrb.cell 3
  have k4 := hrb.cell 4
  have k5 := hrb.cell 5
  have k6 := hrb.cell 6
  have k7 := hrb.cell 7
  have m0 := hrb.frozen 0
  have m1' := hrb.frozen 1
  have m2' := hrb.frozen 2
  have m3' := hrb.frozen 3
  have m4' := hrb.frozen 4
  have m5' := hrb.frozen 5
  have m6' := hrb.frozen 6
  have m7' := hrb.frozen 7
  clear hrb
  go_wp2
  refine bodyPost_ret (results_cell_row3 rfl _ _ gr 46 _ (0, 0) _ rfl ((((((((HBR.out.set_ 0 _).set_ 1 _).set_ 2 _).set_ 3 _).set_ 4 _).set_ 5 _).set_ 6 _).set_ 7 _) Tryz.underlying46 rfl info_ev8) rfl ?_
  refine ⟨HF.out, ?_⟩
  iterate 8 refine Ext.set_ ?_ (by show w.heap.size ≤ gr; rw [HGR.out]; exact Nat.le_refl _) _
  exact HEZ.out
end
end Go.Proofs.YtoghaehcmbonnaaGreatDoor
