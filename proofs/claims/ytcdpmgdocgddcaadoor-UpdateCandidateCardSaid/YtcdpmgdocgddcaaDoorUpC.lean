/- Candidate, of the program and of the reference: what they compute. -/
import Derived.Test.YtcdpmgdocgddcaaDoorRefT
namespace Go.Proofs.YtcdpmgdocgddcaaDoor
open Go.RowKit
set_option maxRecDepth 100000
attribute [local go_sem] ext_refl_t ext_alloc_t ext_drew_t ext_drewN_t ext_alloc2_t ext_alloc3_t ext_alloc4_t ext_alloc5_t ext_alloc6_t ext_alloc7_t ext_alloc8_t ext_alloc1d_t ext_alloc2d_t ext_alloc3d_t ext_alloc4d_t
theorem bestN_c (sim : Ep → Int) (may : Ep → Bool) (es : List Ep) (k : Nat) : bestN sim may es k = (0, 699) ∨ 700 ≤ (bestN sim may es k).2 := by
  induction k with
  | zero => exact .inl rfl
  | succ k ih =>
    unfold bestN
    cases es[k]? with
    | none => exact ih
    | some z =>
      dsimp only
      unfold bestS
      split
      · rename_i h
        refine .inr ?_
        show 700 ≤ sim z
        have h3 := h.2.2
        rcases ih with h1 | h1
        · rw [h1] at h3; dsimp only at h3; omega
        · omega
      · exact ih
/-- The index so far. -/
def atI (s : Nat × Int) : Int := if 700 ≤ s.2 then (s.1 : Int) else -1
def CandV (s : Nat × Int) : Value := .tuple #[.int .i64 (s.1 : Int), .bool (decide (700 ≤ s.2))]
/-- The best of a catalog. -/
def candP (src : ByteArray) (l : List ByteArray) (es : List Ep) (k : Nat) : Nat × Int := bestN (fun z => simP src z.src) (mayP l) es k
section
variable {w : World}
set_option maxHeartbeats 3200000 in
theorem pcand_any {x : Cat} (hx : CatW w x) (src : ByteArray) (hs : src.size ≤ 1000000) (hsrc : ∀ y ∈ x.es, y.p.src.size ≤ 1000000) {A : Option Addr} {m c : Nat} {l : List ByteArray} (hl : SlC strF 1 w A m l) :
    Calls Tryd.prog 22 #[catV x, .string src, .slice A m c] w fun e w' => e = .returned (CandV (candP src l x.p.es x.es.length)) ∧ Ext w w' := by
  obtain ⟨W2, hW2⟩ : ∃ W2, W2 = (w.alloc (Obj.cells #[.string x.tag, .slice x.c.A x.c.m x.c.c, .slice x.d.A x.d.m x.d.c, .slice x.e.A x.e.m x.e.c] 26)).alloc (Obj.cells #[.slice A m c] 22) := ⟨_, rfl⟩
  have hb1 := Blk.new1 w (Obj.cells #[.string x.tag, .slice x.c.A x.c.m x.c.c, .slice x.d.A x.d.m x.d.c, .slice x.e.A x.e.m x.e.c] 26) 22 #[.slice A m c]
  have hb0 := (Blk.new w 26 #[.string x.tag, .slice x.c.A x.c.m x.c.c, .slice x.d.A x.d.m x.d.c, .slice x.e.A x.e.m x.e.c]).alloc (Obj.cells #[.slice A m c] 22)
  rw [← hW2] at hb0 hb1
  have hE2 : Ext w W2 := by rw [hW2]; exact ((Ext.refl w).alloc _).alloc _
  obtain ⟨g1, hg1⟩ : ∃ g1, g1 = w.heap.size + 1 := ⟨_, rfl⟩
  obtain ⟨g0, hg0⟩ : ∃ g0, g0 = w.heap.size := ⟨_, rfl⟩
  rw [← hg1] at hb1
  rw [← hg0] at hb0
  have hc1 : W2.cell? ⟨g1, 0, none⟩ = some (.slice A m c) := hb1.cell 0
  have HBE := Lib.hid (best_cand (hx.ext hE2) src hs hsrc (mayP l) (gy := g1) fun W hW y hy => mayCand_any (later hW hc1) ((hl.ext hE2).ext hW) y)
  have HID : Hid (catV x = .agg #[.string x.tag, .slice x.c.A x.c.m x.c.c, .slice x.d.A x.d.m x.d.c, .slice x.e.A x.e.m x.e.c]) := rfl
  rw [HID.out] at HBE ⊢
  obtain ⟨s, hs2⟩ : ∃ s, s = candP src l x.p.es x.es.length := ⟨_, rfl⟩
  rw [← hs2]
  have HBF : Hid (Calls Tryd.prog 37 #[.agg #[.string x.tag, .slice x.c.A x.c.m x.c.c, .slice x.d.A x.d.m x.d.c, .slice x.e.A x.e.m x.e.c], .string src, .func (.func 38) #[] #[.pointer (some ⟨g1, 0, none⟩)]] W2 fun e w' => e = .returned (.tuple #[.int .i64 (s.1 : Int), .bool (decide (700 ≤ s.2))]) ∧ Ext W2 w') := by
    rw [hs2]
    exact HBE.out
  have c0 := hb0.cell 0
  have c1 := hb0.cell 1
  have c2 := hb0.cell 2
  have c3 := hb0.cell 3
  dsimp at c0 c1 c2 c3
  clear HBE hs2 hb0 hb1 hc1
  go_enter Tryd.func22, Tryd.ntmps22
  go_upto_region 1 with fail
  rw [← hW2, ← hg1, ← hg0]
  clear hW2 hg1 hg0
  go_wp2_with (first
    | (go_at_call 37; refine Hid.out ?_))
  refine Hid.mk_ ((HBF.out).mono ?_)
  rintro e w3 ⟨rfl, hE3⟩
  have hE23 := hE2.trans hE3
  go_wp2
  go_ret2
  exact ⟨rfl, hE23⟩
set_option maxHeartbeats 12800000 in
theorem rcand_any {x : Cat} (hx : CatW w x) (src : ByteArray) (hs : src.size ≤ 1000000) (hsrc : ∀ y ∈ x.es, y.p.src.size ≤ 1000000) {A : Option Addr} {m : Nat} (c : Nat) {l : List ByteArray} (hl : SlC strF 1 w A m l) (hcm : x.e.m ≤ 1000) :
    Calls Tryd.prog 23 #[catV x, .string src, .slice A m c] w fun e w' => e = .returned (CandV (candP src l x.p.es x.es.length)) ∧ Ext w w' := by
  obtain ⟨tag, com, fd, es, hc, hd, he⟩ := x
  have HX := Lib.hid hx
  have HS := Lib.hid hl
  have HSRC := Lib.hid hsrc
  have hle := hx.e.sl.le
  have HL := Lib.hid hx.e.sl.len
  unfold catV
  dsimp only at *
  have hb := Blk.new w 26 #[.string tag, .slice hc.A hc.m hc.c, .slice hd.A hd.m hd.c, .slice he.A he.m he.c]
  have hE1 : Ext w (w.alloc (Obj.cells #[.string tag, .slice hc.A hc.m hc.c, .slice hd.A hd.m hd.c, .slice he.A he.m he.c] 26)) := (Ext.refl w).alloc _
  obtain ⟨W1, hW1⟩ : ∃ W1, W1 = w.alloc (Obj.cells #[.string tag, .slice hc.A hc.m hc.c, .slice hd.A hd.m hd.c, .slice he.A he.m he.c] 26) := ⟨_, rfl⟩
  rw [← hW1] at hb hE1
  obtain ⟨g, hg⟩ : ∃ g, g = w.heap.size := ⟨_, rfl⟩
  rw [← hg] at hb
  have X3 := laters (show _ = some (.slice he.A he.m he.c) from hb.cell 3)
  have HE1 := Lib.hid hE1
  obtain ⟨st, hst⟩ : ∃ st : Nat → Nat × Int, st = candP src l (es.map Ent.p) := ⟨_, rfl⟩
  have HST : Hid (∀ k (h : k < es.length), st (k + 1) = bestS (fun z => simP src z.src) (mayP l) (st k) k es[k].p) := fun k h => by
    rw [hst]; unfold candP; rw [bestN_succ _ _ _ _ (by rw [List.length_map]; exact h), List.getElem_map]
  have HSL : Hid (∀ k, 699 ≤ (st k).2 ∧ (st k).2 ≤ 1000 ∧ (st k).1 ≤ k) := fun k => by rw [hst]; exact bestN_le _ _ _ (fun z => (simL_le _ _).1) k
  have HSC : Hid (∀ k, st k = (0, 699) ∨ 700 ≤ (st k).2) := fun k => by rw [hst]; exact bestN_c _ _ _ k
  have HS0 : Hid (st 0 = (0, 699)) := by show _ = _; rw [hst]; rfl
  have HRES : Hid (candP src l (Cat.p ⟨tag, com, fd, es, hc, hd, he⟩).es es.length = st he.m) := by show _ = _; rw [hst, HL.out]; rfl
  rw [HRES.out]
  clear hb hx hl hsrc hst HRES hE1
  go_enter Tryd.func23, Tryd.ntmps23
  go_upto_region 1 with fail
  rw [← hW1, ← hg]
  clear hW1 hg
  go_wp2
  go_loopw [10, 8, 9] (fun v bv av wr => ∃ q : Nat, q ≤ he.m ∧ v = .int .i64 q ∧ ∃ b : Int, 699 ≤ b ∧ b ≤ 1000 ∧ bv = .int .i64 b ∧ ∃ a : Int, -1 ≤ a ∧ a ≤ 1000 ∧ av = .int .i64 a ∧ Hid ((st q).2 = b ∧ a = atI (st q)) ∧ Hid (Ext W1 wr)) (fun v _ _ _ => he.m - (intOf v).toNat)
  case atStart => exact ⟨0, Nat.zero_le _, rfl, 699, by omega, by omega, rfl, -1, by omega, by omega, rfl, ⟨by rw [HS0.out], by rw [HS0.out]; rfl⟩, Ext.refl _⟩
  case round =>
    obtain ⟨q, hq, rfl, b, hb1, hb2, rfl, a, ha1, ha2, rfl, HBA, HER⟩ := hrel
    have hER := HER.out
    by_cases hlt : q < he.m
    · have hskip : True := trivial
      obtain ⟨zzb, zzo, hzA, -, hcs⟩ := ((HX.out.ext (HE1.out.trans hER)).e).sl.at_ hlt (by omega)
      have HzzA := Lib.hid hzA
      clear hzA
      have zzlt : q < (es).length := by rw [← (HL).out]; exact hlt
      obtain ⟨y, hyq⟩ : ∃ y, y = (es)[q] := ⟨_, rfl⟩
      have y0 := hcs q zzlt 0 (by omega)
      have y1 := hcs q zzlt 1 (by omega)
      have y2 := hcs q zzlt 2 (by omega)
      have y3 := hcs q zzlt 3 (by omega)
      have y4 := hcs q zzlt 4 (by omega)
      have y5 := hcs q zzlt 5 (by omega)
      have y6 := hcs q zzlt 6 (by omega)
      simp only [← hyq, entC, List.getElem_cons_zero, List.getElem_cons_succ, Nat.add_zero, ← Nat.add_assoc] at y0 y1 y2 y3 y4 y5 y6
      have HzzM : Hid (y ∈ es) := by show _ ∈ _; rw [hyq]; exact List.getElem_mem zzlt
      have HzzW : Hid (EntW wr y) := ((HX.out.ext (HE1.out.trans hER)).e).good y HzzM.out
      have HzzQ : Hid ((es)[q]? = some y) := by show _ = _; rw [List.getElem?_eq_getElem zzlt, hyq]
      have zzi : (q : Int) < (he.m : Int) := by omega
      clear hcs hyq
      obtain ⟨⟨zid, zsrc, ztgt, zcom, zfl, zst, zfd⟩, zhc, zhf, zhd⟩ := y
      dsimp only at y0 y1 y2 y3 y4 y5 y6
      have hbY := Blk.new wr 35 #[.string zid, .string zsrc, .string ztgt, .slice zhc.A zhc.m zhc.c, .slice zhf.A zhf.m zhf.c, .int .i64 zst, .slice zhd.A zhd.m zhd.c]
      obtain ⟨W6, hW6⟩ : ∃ W : World, W = wr.alloc (Obj.cells #[.string zid, .string zsrc, .string ztgt, .slice zhc.A zhc.m zhc.c, .slice zhf.A zhf.m zhf.c, .int .i64 zst, .slice zhd.A zhd.m zhd.c] 35) := ⟨_, rfl⟩
      rw [← hW6] at hbY
      have hEW6 : Ext wr W6 := by rw [hW6]; exact (Ext.refl _).alloc _
      obtain ⟨g9, hg9⟩ : ∃ n, n = wr.heap.size := ⟨_, rfl⟩
      rw [← hg9] at hbY
      have Yz0 := laters (show _ = some (.string zid) from hbY.cell 0)
      have Yz1 := laters (show _ = some (.string zsrc) from hbY.cell 1)
      have Yz2 := laters (show _ = some (.string ztgt) from hbY.cell 2)
      have Yz3 := laters (show _ = some (.slice zhc.A zhc.m zhc.c) from hbY.cell 3)
      have Yz4 := laters (show _ = some (.slice zhf.A zhf.m zhf.c) from hbY.cell 4)
      have Yz5 := laters (show _ = some (.int .i64 zst) from hbY.cell 5)
      have Yz6 := laters (show _ = some (.slice zhd.A zhd.m zhd.c) from hbY.cell 6)
      clear hbY
      have X3r := X3 wr hER
      rw [show he.A = some ⟨zzb, zzo, none⟩ from HzzA.out] at X3r
      have HE6 := Lib.hid (hER.trans hEW6)
      have hq9 : q ≤ 1000 := by omega
      have HZS : Hid (zsrc.size ≤ 1000000) := HSRC.out _ HzzM.out
      have HSQ : Hid (st (q + 1) = bestS (fun z => simP src z.src) (mayP l) (st q) q ⟨zid, zsrc, ztgt, zcom, zfl, zst, zfd⟩) := by
        show _ = _
        rw [HST.out q zzlt, (List.getElem?_eq_some_iff.1 HzzQ.out).2]
      clear hER
      go_upto_region 6 with fail
      rw [← hW6, ← hg9]
      clear hW6 hg9 y0 y1 y2 y3 y4 y5 y6 X3r
      have hE66 := Ext.refl W6
      have hno : ¬ (ztgt.size ≠ 0 ∧ mayP l ⟨zid, zsrc, ztgt, zcom, zfl, zst, zfd⟩ = true ∧ (st q).2 < simP src zsrc) → Hid ((st (q + 1)).2 = b ∧ a = atI (st (q + 1))) := fun h => by
        have h9 : st (q + 1) = st q := by rw [HSQ.out]; unfold bestS; exact if_neg h
        show _ ∧ _
        rw [h9]
        exact HBA.out
      by_cases ht : ztgt.size = 0
      · have ht1 : ztgt.toList.isEmpty = true := by rw [isEmpty_size, ht]; rfl
        have HN := hno fun e => e.1 ht
        clear ht hno
        go_wp2
        go_roundw
        case rel => exact ⟨q + 1, by omega, by go_num, b, by omega, by omega, rfl, a, by omega, by omega, rfl, HN, HE6.out⟩
        case measure => simp [intOf]; omega
      · have ht1 : ztgt.toList.isEmpty = false := by rw [isEmpty_size]; exact decide_eq_false ht
        have hhas := rhas_any c (HS.out.ext (HE1.out.trans HE6.out)) zid
        go_wp2_with (first
          | (go_at_call 40; refine Hid.out ?_))
        refine Hid.mk_ ((hhas).mono ?_)
        rintro e w7 ⟨rfl, rfl⟩
        clear hhas
        have HMP : Hid (mayP l ⟨zid, zsrc, ztgt, zcom, zfl, zst, zfd⟩ = !inB l zid) := rfl
        cases hin : inB l zid with
        | true =>
          have HN := hno fun e => by have h9 := e.2.1; rw [HMP.out, hin] at h9; cases h9
          clear ht hno hin
          go_wp2
          go_roundw
          case rel => exact ⟨q + 1, by omega, by go_num, b, by omega, by omega, rfl, a, by omega, by omega, rfl, HN, HE6.out⟩
          case measure => simp [intOf]; omega
        | false =>
          have HYES : Hid (mayP l ⟨zid, zsrc, ztgt, zcom, zfl, zst, zfd⟩ = true) := by show _ = _; rw [HMP.out, hin]; rfl
          have HTG := Lib.hid ht
          clear hin ht
          go_wp2_with (first
            | (go_at_call 42; refine Hid.out ?_))
          refine Hid.mk_ ((rwords_any zsrc (by have := HZS.out; omega)).mono ?_)
          rintro e w8 ⟨A8, m8, c8, rfl, ho8, hE8⟩
          go_wp2_with (first
            | (go_at_call 42; refine Hid.out ?_))
          refine Hid.mk_ ((rwords_any src (by omega)).mono ?_)
          rintro e w9 ⟨A9, m9, c9, rfl, ho9, hE9⟩
          have HE9 := Lib.hid (HE6.out.trans (hE8.trans hE9))
          go_wp2_with (first
            | (go_at_call 41; refine Hid.out ?_))
          refine Hid.mk_ (((rsimilar_any c8 c9 (ho8.sl.ext hE9) ho9.sl)).mono ?_)
          rintro e w10 ⟨rfl, hE10⟩
          have HE10 := Lib.hid (HE9.out.trans hE10)
          clear ho8 ho9
          obtain ⟨v, hv⟩ : ∃ v : Int, v = simL (wordsS zsrc) (wordsS src) := ⟨_, rfl⟩
          have hvb := simL_le (wordsS zsrc) (wordsS src)
          rw [← hv] at hvb
          have HV : Hid (simP src zsrc = v) := by show _ = _; rw [hv]; exact simP_comm _ _
          obtain ⟨hv1, hv2⟩ := hvb
          rw [← hv]
          clear hv hE8 hE9 hE10
          by_cases hlv : b < v
          · have HN : Hid ((st (q + 1)).2 = v ∧ (q : Int) = atI (st (q + 1))) := by
              have h9 : st (q + 1) = (q, v) := by
                rw [HSQ.out]
                unfold bestS
                rw [if_pos ⟨HTG.out, HYES.out, by show _ < simP src zsrc; rw [HV.out, HBA.out.1]; exact hlv⟩]
                show (q, simP src zsrc) = _
                rw [HV.out]
              show _ ∧ _
              rw [h9]
              refine ⟨rfl, ?_⟩
              unfold atI
              rw [if_pos (by show 700 ≤ v; omega)]
            clear hno
            go_wp2
            go_roundw
            case rel => exact ⟨q + 1, by omega, by go_num, v, by omega, by omega, rfl, (q : Int), by omega, by omega, rfl, HN, HE10.out⟩
            case measure => simp [intOf]; omega
          · have HN := hno fun e => by have h9 := e.2.2; rw [HV.out, HBA.out.1] at h9; exact hlv h9
            clear hno
            go_wp2
            go_roundw
            case rel => exact ⟨q + 1, by omega, by go_num, b, by omega, by omega, rfl, a, by omega, by omega, rfl, HN, HE10.out⟩
            case measure => simp [intOf]; omega
    · have hi1 : ¬ (q : Int) < (he.m : Int) := by omega
      have hqe : q = he.m := by omega
      subst hqe
      have HEX := Lib.hid (HE1.out.trans hER)
      rcases HSC.out he.m with h0 | h0
      · have ha : a = -1 := by rw [HBA.out.2, h0]; rfl
        subst ha
        have HR : Hid (CandV (st he.m) = .tuple #[.int .i64 0, .bool false]) := by show _ = _; rw [h0]; rfl
        clear h0
        go_wp2
        go_ret2
        exact ⟨by rw [HR.out]; first | done | rfl, HEX.out⟩
      · obtain ⟨s1, s2⟩ : ∃ u : Nat, u = (st he.m).1 := ⟨_, rfl⟩
        have ha : a = (s1 : Int) := by rw [HBA.out.2, s2]; unfold atI; exact if_pos h0
        subst ha
        have ha0 : ¬ (s1 : Int) < 0 := by omega
        have HR : Hid (CandV (st he.m) = .tuple #[.int .i64 (s1 : Int), .bool true]) := by show _ = _; unfold CandV; rw [decide_eq_true h0, s2]
        clear h0 s2
        go_wp2
        go_ret2
        exact ⟨by rw [HR.out]; first | done | rfl, HEX.out⟩
end
end Go.Proofs.YtcdpmgdocgddcaaDoor
