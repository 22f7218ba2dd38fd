/- journal.Encode. -/
import Derived.Test.YtoghaehcmbonnaaGreatDoorJrnP
import Derived.Test.YtoghaehcmbonnaaGreatDoorMem
namespace Go.Proofs.YtoghaehcmbonnaaGreatDoor
open Go.RowKit
set_option maxRecDepth 100000

attribute [local go_sem] ext_refl_t ext_alloc_t ext_drew_t ext_drewN_t ext_alloc2_t ext_alloc3_t ext_alloc4_t ext_alloc5_t ext_alloc6_t ext_alloc7_t ext_alloc8_t ext_alloc1d_t ext_alloc2d_t ext_alloc3d_t ext_alloc4d_t
def evV (x : Ev) : Value := .agg #[.int .i64 x.kind, .string x.who, .string x.name, .string x.id, .string x.text, .int .i64 x.a, .int .i64 x.b, .int .i64 x.t]
/-- The event's texts are not too long. -/
def ShortE (x : Ev) : Prop := x.who.size + x.name.size + x.id.size + x.text.size ≤ 140737488350000
section
variable {w : World}
theorem flatI_snoc (l : List Int) (k : Nat) (h : k < l.length) : (l.take (k + 1)).flatMap encI = (l.take k).flatMap encI ++ encI l[k] := by
  rw [List.take_succ_eq_append_getElem h, List.flatMap_append]; simp
theorem flatI_len : ∀ l : List Int, (l.flatMap encI).length ≤ 9 * l.length
  | [] => by simp
  | n :: t => by
    have h1 := encI_length_le n
    have h2 := flatI_len t
    rw [List.flatMap_cons, List.length_append, List.length_cons]
    omega
set_option maxHeartbeats 3200000 in
theorem jenc_any (x : Ev) (hg : GoodE x) (hs : ShortE x) :
    Calls Tryz.prog 32 #[evV x] w fun e w' => ∃ A m c, e = .returned (.slice A m c) ∧ OsB w' w.heap.size A m c (encE x) ∧ Ext w w' := by
  obtain ⟨kd, who, nam, id, txt, a, b, t⟩ := x
  obtain ⟨g1, g2, g3, g4⟩ := hg
  unfold ShortE at hs
  simp only at hs g1 g2 g3 g4
  obtain ⟨ss, hss⟩ : ∃ ss : List ByteArray, ss = [who, nam, id, txt] := ⟨_, rfl⟩
  obtain ⟨is, his⟩ : ∃ is : List Int, is = [a, b, t] := ⟨_, rfl⟩
  have hfin : encE ⟨kd, who, nam, id, txt, a, b, t⟩ = encI kd ++ (ss.flatMap fun s => encS (bys s)) ++ is.flatMap encI := by
    rw [hss, his]
    simp [encE]
  have hslen : ss.length = 4 := by rw [hss]; rfl
  have hilen : is.length = 3 := by rw [his]; rfl
  have hsl : ∀ k, k ≤ 4 → (encI kd ++ (ss.take k).flatMap fun s => encS (bys s)).length + 200 ≤ 140737488352000 := fun k _ => by
    have h1 := encI_length_le kd
    have h2 := flat_le ss k (fun s => encS (bys s))
    have h3 : (ss.flatMap fun s => encS (bys s)).length ≤ 36 + who.size + nam.size + id.size + txt.size := by
      rw [hss]
      have := encS_len who
      have := encS_len nam
      have := encS_len id
      have := encS_len txt
      simp only [List.flatMap_cons, List.flatMap_nil, List.length_append, List.append_nil]
      omega
    rw [List.length_append]
    omega
  have hsz : ∀ s ∈ ss, s.size ≤ 140737488350000 := by
    rw [hss]
    intro s hm
    simp only [List.mem_cons, List.not_mem_nil, or_false] at hm
    rcases hm with rfl | rfl | rfl | rfl <;> omega
  have hgi : ∀ k (h : k < is.length), InR is[k] := by
    subst his
    intro k h
    match k, h with
    | 0, _ => exact g2
    | 1, _ => exact g3
    | 2, _ => exact g4
  have HF := Lib.hid hfin
  have HSL := Lib.hid hsl
  have HSZ := Lib.hid hsz
  have HGI := Lib.hid hgi
  have HSS := Lib.hid hss
  have HIS := Lib.hid his
  have HLN := Lib.hid hslen
  have HLI := Lib.hid hilen
  clear hfin hsl hsz hgi hss his hslen hilen
  unfold evV
  go_enter Tryz.func32, Tryz.ntmps32
  have hx1 := Blk.new w 46 #[.int .i64 kd, .string who, .string nam, .string id, .string txt, .int .i64 a, .int .i64 b, .int .i64 t]
  have hEa : Ext w (w.alloc (Obj.cells #[.int .i64 kd, .string who, .string nam, .string id, .string txt, .int .i64 a, .int .i64 b, .int .i64 t] 46)) := (Ext.refl w).alloc _
  go_wp2_with (first
    | (go_at_call 50; refine Hid.out ?_))
  refine Hid.mk_ ((packInt 0 kd SlB.nil_ (by omega) g1.1 g1.2).mono ?_)
  rintro e w1 ⟨A1, m1, c1, rfl, ho1, hE1⟩
  have hx2 := hx1.below hE1 hx1.lt
  have hE01 := hEa.trans hE1
  obtain ⟨gx, hgx⟩ : ∃ gx, gx = w.heap.size := ⟨_, rfl⟩
  rw [← hgx] at hx2 ⊢
  have x1 : w1.cell? ⟨gx, 1, none⟩ = some (.string who) := hx2.cell 1
  have x2 : w1.cell? ⟨gx, 2, none⟩ = some (.string nam) := hx2.cell 2
  have x3 : w1.cell? ⟨gx, 3, none⟩ = some (.string id) := hx2.cell 3
  have x4 : w1.cell? ⟨gx, 4, none⟩ = some (.string txt) := hx2.cell 4
  have y5 := laters (hx2.cell 5 : w1.cell? ⟨gx, 5, none⟩ = some (.int .i64 a))
  have y6 := laters (hx2.cell 6 : w1.cell? ⟨gx, 6, none⟩ = some (.int .i64 b))
  have y7 := laters (hx2.cell 7 : w1.cell? ⟨gx, 7, none⟩ = some (.int .i64 t))
  have HGX := Lib.hid hgx
  have Y5 := Lib.hid y5
  have Y6 := Lib.hid y6
  have Y7 := Lib.hid y7
  clear hx1 hx2 hgx y5 y6 y7
  have hS : SlS (w1.alloc (Obj.cells #[.string who, .string nam, .string id, .string txt] 9)) (some ⟨w1.heap.size, 0, none⟩) 4 ss := SlS.new_ w1 ss (by rw [HLN.out]; omega) _ (by rw [HSS.out]; rfl) (0, 0) 4 HLN.out.symm 9
  have hEs : Ext w1 (w1.alloc (Obj.cells #[.string who, .string nam, .string id, .string txt] 9)) := (Ext.refl w1).alloc _
  go_wp2
  go_loopw [3, 21] (fun v i wr => ∃ (A : Option Addr) (m c k : Nat), k ≤ 4 ∧ v = .slice A m c ∧ i = .int .i64 k ∧ OsB wr w.heap.size A m c (encI kd ++ (ss.take k).flatMap fun s => encS (bys s)) ∧ Ext w1 wr ∧ SlS wr (some ⟨w1.heap.size, 0, none⟩) 4 ss) (fun _ i _ => 4 - (intOf i).toNat)
  case atStart => exact ⟨A1, m1, c1, 0, by omega, rfl, rfl, by simpa using (ho1.mono (by simp)).ext hEs, hEs, hS⟩
  case round =>
    obtain ⟨A, m, c, k, hk, rfl, rfl, ho, hE, hS2⟩ := hrel
    by_cases hlt : k < 4
    · obtain ⟨b0, off, hA, _, hc⟩ := hS2.at_ hlt
      injection hA with hA
      injection hA with hA1 hA2
      subst hA1 hA2
      have hkl : k < ss.length := by rw [HLN.out]; exact hlt
      have hck := hc k hkl
      rw [Nat.zero_add] at hck
      have hsz := HSZ.out ss[k] (List.getElem_mem hkl)
      have hsn := flat_snoc ss k hkl fun s => encS (bys s)
      have hbd := HSL.out (k + 1) (by omega)
      have hes := encS_len ss[k]
      obtain ⟨s, hs⟩ : ∃ s, s = ss[k] := ⟨_, rfl⟩
      rw [← hs] at hck hsz hsn hes
      have hms : m + s.size ≤ 140737488355000 := by
        have h1 := ho.len
        have h2 := HSL.out k (by omega)
        rw [← h1] at h2
        have h3 : ((ss.take (k + 1)).flatMap fun s => encS (bys s)).length = ((ss.take k).flatMap fun s => encS (bys s)).length + (encS (bys s)).length := by rw [hsn, List.length_append]
        have h4 : (encS (bys s)).length = (encI ((bys s).length : Int)).length + s.size := by unfold encS; rw [List.length_append, bys_len]
        rw [List.length_append] at hbd h1
        omega
      have HSN := Lib.hid hsn
      clear hs hc hbd hes hsz hsn
      have hi1 : (k : Int) < 4 := by omega
      go_wp2_with (first
        | (go_at_call 51; refine Hid.out ?_))
      refine Hid.mk_ ((packStr c s ho.sl hms).mono ?_)
      rintro e w2 ⟨A2, m2, c2, rfl, ho2, hE2⟩
      have hE12 := hE.trans hE2
      have hS3 := (SlS.ext hS2 hE2)
      have hsz2 : w.heap.size ≤ wr.heap.size := Nat.le_trans hE01.size_le hE.size_le
      go_wp2
      go_roundw
      case rel => exact ⟨A2, m2, c2, k + 1, by omega, rfl, by go_num, by rw [HSN.out, ← List.append_assoc]; exact ho2.mono hsz2, hE12, hS3⟩
      case measure => simp [intOf]; omega
    · have htk : (ss.take k) = ss := List.take_of_length_le (by rw [HLN.out]; omega)
      rw [htk] at ho
      have c5 := Y5.out _ hE
      have c6 := Y6.out _ hE
      have c7 := Y7.out _ hE
      obtain ⟨wo, rfl⟩ : ∃ wo : World, wo = wr := ⟨_, rfl⟩
      have hEi : Ext wo (wo.alloc (Obj.cells #[.int .i64 a, .int .i64 b, .int .i64 t] 3)) := (Ext.refl wo).alloc _
      have hB := Blk.new wo 3 #[.int .i64 a, .int .i64 b, .int .i64 t]
      have hi1 : ¬ (k : Int) < 4 := by omega
      clear htk hS2 hlt
      go_wp2
      obtain ⟨gi, hgi⟩ : ∃ gi, gi = wo.heap.size := ⟨_, rfl⟩
      rw [← hgi] at hB ⊢
      have HGIX := Lib.hid hgi
      clear hgi
      go_loopw [3, 37] (fun v i wq => ∃ (A' : Option Addr) (m' c' q : Nat), q ≤ 3 ∧ v = .slice A' m' c' ∧ i = .int .i64 q ∧ OsB wq w.heap.size A' m' c' (encI kd ++ (ss.flatMap fun s => encS (bys s)) ++ (is.take q).flatMap encI) ∧ Ext w1 wq ∧ Blk wq gi 3 #[.int .i64 a, .int .i64 b, .int .i64 t]) (fun _ i _ => 3 - (intOf i).toNat)
      case atStart => exact ⟨A, m, c, 0, by omega, rfl, rfl, by simpa using ho.ext hEi, hE.trans hEi, hB⟩
      case round =>
        obtain ⟨A', m', c', q, hq, rfl, rfl, hoq, hEq, hBq⟩ := hrel
        by_cases hlt : q < 3
        · have hql : q < is.length := by rw [HLI.out]; exact hlt
          have hcq : wr.cell? ⟨gi, q, none⟩ = some (.int .i64 is[q]) := by
            rw [hBq.cell q]
            have h1 : (is.map (Value.int .i64))[q]? = some (.int .i64 is[q]) := by rw [List.getElem?_map, List.getElem?_eq_getElem hql]; rfl
            have h2 := congrArg (fun l : List Int => (l.map (Value.int .i64))[q]?) HIS.out
            have h3 := h2.symm.trans h1
            simpa using h3
          have hg := HGI.out q hql
          have hsn := flatI_snoc is q hql
          obtain ⟨z, hz⟩ : ∃ z, z = is[q] := ⟨_, rfl⟩
          rw [← hz] at hcq hg hsn
          have hms : m' ≤ 140737488355000 := by
            have h1 := hoq.len
            have h2 := HSL.out 4 (by omega)
            rw [List.take_of_length_le (by rw [HLN.out]; omega)] at h2
            have h3 := flatI_len (is.take q)
            have h4 : (is.take q).length ≤ 3 := by rw [List.length_take, HLI.out]; omega
            rw [List.length_append] at h1
            omega
          have HSN := Lib.hid hsn
          obtain ⟨hg1, hg2⟩ := hg
          have hi1 : (q : Int) < 3 := by omega
          clear hz hsn
          go_wp2_with (first
            | (go_at_call 50; refine Hid.out ?_))
          refine Hid.mk_ ((packInt c' z hoq.sl hms hg1 hg2).mono ?_)
          rintro e w2 ⟨A2, m2, c2, rfl, ho2, hE2⟩
          have hE12 := hEq.trans hE2
          have hB3 := hBq.below hE2 hBq.lt
          have hsz2 : w.heap.size ≤ wr.heap.size := Nat.le_trans hE01.size_le hEq.size_le
          go_wp2
          go_roundw
          case rel => exact ⟨A2, m2, c2, q + 1, by omega, rfl, by go_num, by rw [HSN.out, ← List.append_assoc]; exact ho2.mono hsz2, hE12, hB3⟩
          case measure => simp [intOf]; omega
        · obtain rfl : q = 3 := by omega
          have htk : (is.take 3) = is := List.take_of_length_le (by rw [HLI.out]; omega)
          rw [htk] at hoq
          clear htk hlt
          go_wp2
          go_ret
          exact ⟨A', m', c', rfl, by rw [HF.out]; exact hoq, hE01.trans hEq⟩
end

end Go.Proofs.YtoghaehcmbonnaaGreatDoor
