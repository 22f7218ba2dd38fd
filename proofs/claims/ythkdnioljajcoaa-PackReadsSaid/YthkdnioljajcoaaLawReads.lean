/- The statement PackReads holds of every input: the walk, and the row. -/
import Derived.Test.YthkdnioljajcoaaAwake
import Derived.Test.YthkdnioljajcoaaRefRd
import Derived.Test.YthkdnioljajcoaaSameS
import Derived.Test.YthkdnioljajcoaaOpen
import Derived.Test.YthkdnioljajcoaaSlc
import Derived.Lib.SmallJoins
import Derived.ProofKit
import Derived.OpenShut
import Derived.ShutString
import Derived.ChangeOld
import Derived.SizedLaws
namespace Go.Proofs.Ythkdnioljajcoaa
open Go.ChangeShapes Go.WideShapes Go.ChangeAt Go.RowKit

/-- A step's cells. -/
def stC (x : Int × Int × Int) : List Value := [.int .i64 x.1, .int .i64 x.2.1, .int .i64 x.2.2]
theorem cells_step : Try.prog.cellsOf 53 = 3 := by kernel_rfl
theorem bytes_step : Try.prog.bytesOf 53 = 24 := by kernel_rfl
theorem stC_len (x : Int × Int × Int) : (stC x).length = 3 := rfl
theorem inc_u8 (x : UInt8) : IntKind.u8.wrap ((x.toNat : Int) + 1) = ((x + 1).toNat : Int) := by
  have := x.toNat_lt
  rw [UInt8.toNat_add]
  simp only [IntKind.wrap]
  simp [IntKind.bits, IntKind.signed]

section
variable {H : Type} {enc : TypeId × Value → H} {W : World}
theorem step_elem : ∀ n cs' x, DataW.trod enc Try.prog W 0 (fun _ => true) true n 53 cs' = some x → ∃ y, cs' = stC y ∧ True := fun n cs' x h => by
  obtain ⟨y0, y1, y2, n', hx, hl, h0, h1, h2⟩ := Go.Deep.trod_struct3 Try.underlying53 h
  rw [cells_step] at hl
  match cs', hl with
  | [a, b, c], _ =>
    obtain ⟨z0, e0, _⟩ := DataW.trod_int Try.underlying3 h0
    obtain ⟨z1, e1, _⟩ := DataW.trod_int Try.underlying3 h1
    obtain ⟨z2, e2, _⟩ := DataW.trod_int Try.underlying3 h2
    refine ⟨(z0, z1, z2), ?_, trivial⟩
    have f0 : [a] = [Value.int .i64 z0] := e0
    have f1 : [b] = [Value.int .i64 z1] := e1
    have f2 : [c] = [Value.int .i64 z2] := e2
    injection f0 with f0
    injection f1 with f1
    injection f2 with f2
    rw [f0, f1, f2]
    rfl
end
theorem cell_later {w w' : World} {a : Addr} {v : Value} (hE : Ext w w') (h : w.cell? a = some v) : w'.cell? a = some v :=
  (Below.cell hE (World.block_lt_of_cell? w _ h)).trans h
theorem offset_q {w : World} {g : Nat} {A : Option Addr} {m c : Nat} {bs : List UInt8} {at_ : Nat} {f : Bool} (h : Rdr w g A m c bs at_ f) :
    Calls Try.prog 21 #[.pointer (some ⟨g, 0, none⟩)] w fun e w' => e = .returned (.int .i64 at_) ∧ w' = w :=
  (offset_any h).mono fun _ _ ⟨a, b⟩ => ⟨b, a.symm⟩
theorem SlB.alt {w : World} {A : Option Addr} {m : Nat} {l : List UInt8} (h : SlB w A m l) : ∀ k, obm m A = some k → k < w.heap.size := fun k hk => by
  have hm : 0 < m := by
    unfold obm at hk
    split at hk
    · cases hk
    · omega
  obtain ⟨b, off, rfl, hb, _⟩ := h.at_ hm
  rw [obm_pos hm] at hk
  have hk : b = k := by simpa [ob] using hk
  omega

set_option maxRecDepth 100000 in
set_option maxHeartbeats 3200000 in
theorem reads_walk {A B : Option Addr} {m k : Nat} (c d : Nat) {bs : List UInt8} {sl : List (Int × Int × Int)} (w : World) (hb : SlB w A m bs) (hc : m ≤ c) (hs : SlC stC 3 w B k sl) :
    Calls Try.prog 8 #[.slice A m c, .slice B k d] w fun e w' => e = .returned (.bool true) ∧ Ext w w' := by
  have hle := hb.le
  have hks := hs.le
  go_enter Try.func8, Try.ntmps8
  go_wp2_with (first
    | (go_at_call 10; refine Hid.out ?_))
  refine Hid.mk_ ((awake_any w).mono ?_)
  rintro e w1 ⟨rfl, hE1⟩
  by_cases hbig : 300 < m ∨ 20 < k
  · by_cases hbig1 : 300 < m
    · clear hbig
      go_wp2_with (first
        | (go_at_call 10; refine Hid.out ?_))
      refine Hid.mk_ ((awake_any w1).mono ?_)
      rintro e w2 ⟨rfl, hE2⟩
      have hE := hE1.trans hE2
      go_wp2
      go_ret
      exact ⟨rfl, hE⟩
    · have hbig2 : 20 < k := by omega
      clear hbig
      go_wp2_with (first
        | (go_at_call 10; refine Hid.out ?_))
      refine Hid.mk_ ((awake_any w1).mono ?_)
      rintro e w2 ⟨rfl, hE2⟩
      have hE := hE1.trans hE2
      go_wp2
      go_ret
      exact ⟨rfl, hE⟩
  · have hm300 : m ≤ 300 := by omega
    have hk20 : k ≤ 20 := by omega
    clear hbig
    have HML := Lib.hid hb.len
    have HKL := Lib.hid hs.len
    go_wp2_with (first
      | (at_builtin; refine Hid.out ?_))
    refine Hid.mk_ ?_
    refine appB rfl _ _ rfl (OsB.new_ w1 w.heap.size hE1.size_le [] (by simp) _ rfl 0 rfl) rfl ((hb.ext hE1).ext ((Ext.refl _).alloc _)) rfl (by omega) (hE1.alloc _).size_le ?_
    intro A2 m2 c2 w2 ho2 hg2 hat2
    have hE2 : Ext w w2 := (hE1.alloc _).grown hg2 (by intro k hk; simp [ob] at hk; have := hE1.size_le; omega)
    rw [List.nil_append] at ho2
    have hm2 : m2 ≤ 300 := by have h1 := ho2.len; have h2 := hb.len; omega
    go_wp2_with (first
      | (go_at_call 19; refine Hid.out ?_))
    refine Hid.mk_ ((read_any c2 ho2.sl).mono ?_)
    rintro e w3 ⟨g, A3, m3, c3, rfl, hR3, hE3, hg3, hA3⟩
    have hE03 := hE2.trans hE3
    have ho3 := ho2.ext hE3
    go_wp2
    obtain ⟨w4, hw4⟩ : ∃ w4, w4 = w3.alloc (Obj.cells #[Value.slice A m c, Value.int IntKind.i64 0, Value.bool false] 51) := ⟨_, rfl⟩
    rw [← hw4]
    have hE34 : Ext w3 w4 := by rw [hw4]; exact (Ext.refl w3).alloc _
    have hE04 := hE03.trans hE34
    have hRb : RRdr w4 w3.heap.size A m c bs 0 false := by
      refine ⟨by rw [hw4]; exact Blk.new w3 _ _, hb.ext hE04, ?_, by omega, hc, fun k hk => Nat.lt_of_lt_of_le (hb.alt k hk) hE04.size_le⟩
      cases hA : obm m A with
      | none => exact .inl rfl
      | some j =>
        right
        intro e
        injection e with e
        have h1 := hb.alt j hA
        have h2 := hE03.size_le
        omega
    have hRa := hR3.ext hE34
    have ho4 := ho3.ext hE34
    have hgl := hR3.blk.lt
    have hg2l : w3.heap.size < w4.heap.size := hRb.blk.lt
    obtain ⟨g2, hg2e⟩ : ∃ g2, g2 = w3.heap.size := ⟨_, rfl⟩
    rw [← hg2e] at hRb hgl hg2l ⊢
    have HA2 := Lib.hid ho2.lt
    have hw2s := hE3.size_le
    have hw0s := hE2.size_le
    have hgg : w.heap.size ≤ g := by omega
    have hgg2 : w.heap.size ≤ g2 := by omega
    have HG2 := Lib.hid hg2e; have HW4 := Lib.hid hw4
    clear hg2e hw4
    go_loopw [8] (fun i wr => ∃ (q : Nat) (l' : List UInt8), q ≤ m2 ∧ i = .int .i64 q ∧ OsB wr w.heap.size A2 m2 c2 l' ∧ Rdr wr g A3 m3 c3 bs 0 false ∧ RRdr wr g2 A m c bs 0 false ∧ Ext w wr) (fun i _ => m2 - (intOf i).toNat)
    case atStart => exact ⟨0, bs, Nat.zero_le _, rfl, ho4, hRa, hRb, hE04⟩
    case round =>
      obtain ⟨q, l', hq, rfl, ho, hRa', hRb', hE⟩ := hrel
      by_cases hlt : q < m2
      · obtain ⟨b, hA⟩ : ∃ b, A2 = some ⟨b, 0, none⟩ := by
          rcases ho.own.2 with ⟨hv, hz⟩ | ⟨b, cap, cur, hv, _⟩
          · omega
          · exact ⟨b, by injection hv⟩
        have hbl := HA2.out b (by rw [hA]; rfl)
        have hbg := ho.ge b (by rw [hA]; rfl)
        subst hA
        have hll := ho.len
        obtain ⟨y, hy⟩ : ∃ y, l'[q]? = some y := ⟨_, List.getElem?_eq_getElem (by omega)⟩
        have c1 : wr.cell? ⟨b, q, none⟩ = some (.int .u8 (y.toNat : Int)) := by
          rw [ho.own.cellAt q (by omega), List.getElem?_map, hy]; rfl
        have f1 := ho.own.frozenAt q
        have st1 := ho.own.stored q (bv (y + 1))
        rw [map_set_bv] at st1
        have hinc := inc_u8 y
        have hi1 : (q : Int) < (m2 : Int) := by omega
        have ST := Lib.hid st1
        have HY := Lib.hid hy
        have HLL := Lib.hid hll
        clear st1 hy hll
        go_wp2
        go_roundw
        case rel =>
          have hgr := ST.out.2
          refine ⟨q + 1, l'.set q (y + 1), by omega, by go_num, ⟨ST.out.1, by rw [List.length_set]; exact HLL.out, by omega⟩, hRa'.kept hgr (by intro e; injection e with e; omega) (ne_of_lt (B := w2.heap.size) (fun k hk => hA3 k (obm_ob hk)) (fun k hk => by injection hk with hk; omega)),
            hRb'.kept hgr (by intro e; injection e with e; omega) (ne_of_lt' (B := w.heap.size) (fun k hk => hb.alt k hk) (fun k hk => by injection hk with hk; omega)), hE.grown hgr (fun k hk => by injection hk with hk; omega)⟩
        case measure => simp [intOf]; omega
      · clear ho
        go_wp2
        go_loopw [9] (fun i wr => ∃ (q a : Nat) (f : Bool), q ≤ k ∧ i = .int .i64 q ∧ Rdr wr g A3 m3 c3 bs a f ∧ RRdr wr g2 A m c bs a f ∧ Ext w wr) (fun i _ => k - (intOf i).toNat)
        case atStart => exact ⟨0, 0, false, Nat.zero_le _, rfl, hRa', hRb', hE⟩
        case round =>
          obtain ⟨q, a, f, hq2, rfl, hR1, hR2, hE1'⟩ := hrel
          by_cases hlt2 : q < k
          · obtain ⟨b, off, rfl, hbl, hcs⟩ := (hs.ext hE1').at_ hlt2 (by omega)
            have hlt3 : q < sl.length := by rw [← HKL.out]; exact hlt2
            obtain ⟨x, hx⟩ : ∃ x, x = sl[q] := ⟨_, rfl⟩
            have x0 := hcs q hlt3 0 (by omega)
            have x1 := hcs q hlt3 1 (by omega)
            have x2 := hcs q hlt3 2 (by omega)
            simp only [← hx, stC, List.getElem_cons_zero, List.getElem_cons_succ, Nat.add_zero, ← Nat.add_assoc] at x0 x1 x2
            obtain ⟨kd, least, most⟩ := x
            simp only at x0 x1 x2
            have hi2 : (q : Int) < (k : Int) := by omega
            have HX := Lib.hid hx
            clear hx hcs
            obtain ⟨wx, hwx⟩ : ∃ wx, wx = wr.alloc (Obj.cells #[Value.int IntKind.i64 kd, Value.int IntKind.i64 least, Value.int IntKind.i64 most] 53) := ⟨_, rfl⟩
            have hEx : Ext wr wx := by rw [hwx]; exact (Ext.refl wr).alloc _
            have hbx : Blk wx wr.heap.size 53 #[Value.int IntKind.i64 kd, Value.int IntKind.i64 least, Value.int IntKind.i64 most] := by rw [hwx]; exact Blk.new wr _ _
            have hR1x := hR1.ext hEx
            have hR2x := hR2.ext hEx
            have hE0x := hE1'.trans hEx
            have hgr1 := hR1.blk.lt
            have hgr2 := hR2.blk.lt
            have hga : ∀ (w5 w6 : World) (a' : Nat) (f' : Bool), Rdr w5 g A3 m3 c3 bs a' f' → w5.grownBy w6 (some g2) → Rdr w6 g A3 m3 c3 bs a' f' := fun _ _ _ _ hr hg => hr.kept hg (by intro e; injection e with e; omega) (ne_of_lt' (B := g2) (fun k hk => by have h1 := hR3.alt k hk; have h2 := HG2.out; omega) (fun k hk => by injection hk with hk; omega))
            have hgb : ∀ (w5 w6 : World) (a' : Nat) (f' : Bool), RRdr w5 g2 A m c bs a' f' → w5.grownBy w6 (some g) → RRdr w6 g2 A m c bs a' f' := fun _ _ _ _ hr hg => hr.kept hg (by intro e; injection e with e; omega) (ne_of_lt' (B := w.heap.size) (fun k hk => hb.alt k hk) (fun k hk => by injection hk with hk; omega))
            have hgE : ∀ (w5 w6 : World), Ext w w5 → w5.grownBy w6 (some g) → Ext w w6 := fun _ _ he hg => he.grown hg (fun k hk => by injection hk with hk; omega)
            have hgE2 : ∀ (w5 w6 : World), Ext w w5 → w5.grownBy w6 (some g2) → Ext w w6 := fun _ _ he hg => he.grown hg (fun k hk => by injection hk with hk; omega)
            have HGA := Lib.hid hga; have HGB := Lib.hid hgb; have HGE := Lib.hid hgE; have HGE2 := Lib.hid hgE2
            clear hga hgb hgE hgE2
            have HWX := Lib.hid hwx
            clear hwx
            by_cases k0 : kd = 0
            · subst k0
              go_wp2_with (first
                | (go_at_call 24; refine Hid.out ?_))
              rw [← HWX.out]
              refine Hid.mk_ ((rInt hR1x).mono ?_)
              rintro e w5 ⟨rfl, hRa5, hg5⟩
              have hRb5 := HGB.out _ _ _ _ hR2x hg5
              go_wp2_with (first
                | (go_at_call 27; refine Hid.out ?_))
              refine Hid.mk_ ((refInt_any hRb5).mono ?_)
              rintro e w6 ⟨rfl, hRb, hg6⟩
              have hRa := HGA.out _ _ _ _ hRa5 hg6
              have hEa := HGE2.out _ _ (HGE.out _ _ hE0x hg5) hg6
              generalize stepI bs a f = st at hRa hRb ⊢
              obtain ⟨n2, a2, f2⟩ := st
              dsimp only at hRa hRb ⊢
              clear hRa5 hRb5 hg5 hg6
              have hb1 := hRb.c1
              have hb2 := hRb.c2
              have HQR := fun n => Lib.hid (hRa.ext ((Ext.refl _).drewN n))
              have HEQ := fun n => end_quiet (hRa.ext ((Ext.refl _).drewN n))
              cases f2
              · by_cases hat : a2 = m
                · have hen : endE bs.length a2 false = 0 := by rw [← HML.out]; simp [endE, hat]
                  have hae : ((a2 : Int) == (m : Int)) = true := by simp [hat]
                  rw [hen] at HEQ
                  clear hat hen
                  go_wp2
                  go_quiet ((first
                    | (go_at_call 21; exact Calls.quiet_of_same (offset_q (HQR _).out))
                    | (go_at_call 22; exact Calls.quiet_of (HEQ _))))
                  go_wp2
                  go_roundw
                  case rel => exact ⟨q + 1, a2, _, by omega, by go_num, (HQR _).out, hRb.ext ((Ext.refl _).drewN _), hEa.drewN _⟩
                  case measure => simp [intOf]; omega
                · have hen : endE bs.length a2 false = 4 := by rw [← HML.out]; simp [endE, hat]
                  have hae : ((a2 : Int) == (m : Int)) = false := by rw [beq_eq_false_iff_ne]; omega
                  rw [hen] at HEQ
                  clear hat hen
                  go_wp2
                  go_quiet ((first
                    | (go_at_call 21; exact Calls.quiet_of_same (offset_q (HQR _).out))
                    | (go_at_call 22; exact Calls.quiet_of (HEQ _))))
                  go_wp2
                  go_roundw
                  case rel => exact ⟨q + 1, a2, _, by omega, by go_num, (HQR _).out, hRb.ext ((Ext.refl _).drewN _), hEa.drewN _⟩
                  case measure => simp [intOf]; omega
              · have hen : endE bs.length a2 true = 4 := by simp [endE]
                rw [hen] at HEQ
                clear hen
                go_wp2
                go_quiet ((first
                  | (go_at_call 21; exact Calls.quiet_of_same (offset_q (HQR _).out))
                  | (go_at_call 22; exact Calls.quiet_of (HEQ _))))
                go_wp2
                go_roundw
                case rel => exact ⟨q + 1, a2, _, by omega, by go_num, (HQR _).out, hRb.ext ((Ext.refl _).drewN _), hEa.drewN _⟩
                case measure => simp [intOf]; omega
            · have k0' : (kd == 0) = false := by rw [beq_eq_false_iff_ne]; exact k0
              by_cases k1 : kd = 1
              · subst k1
                have x1x : wx.drew.cell? ⟨wr.heap.size, 1, none⟩ = some (.int .i64 least) := hbx.cell 1
                have x2x : wx.drew.cell? ⟨wr.heap.size, 2, none⟩ = some (.int .i64 most) := hbx.cell 2
                have hR1d := hR1x.ext (Ext.refl _).drew
                have hR2d := hR2x.ext (Ext.refl _).drew
                have hE0d := hE0x.drew
                have hg3g : wr.heap.size ≠ g := by omega
                have hg3g2 : wr.heap.size ≠ g2 := by omega
                go_wp2
                rw [← HWX.out]
                go_region_held3 (fun w' => w'.cell? ⟨wr.heap.size, 1, none⟩ = some (.int .i64 least) ∧ w'.cell? ⟨wr.heap.size, 2, none⟩ = some (.int .i64 most))
                  (first | go_keep | assumption)
                  (first
                    | (go_at_call 20; refine (rBounded least most hR1d).mono ?_; rintro e w5 ⟨rfl, hRa5, hg5⟩; have hRb5 := HGB.out _ _ _ _ hR2d hg5; have hE05 := HGE.out _ _ hE0d hg5; have x15 := hg5.cell (a := ⟨wr.heap.size, 1, none⟩) x1x (fun e => hg3g (by simpa using e)); have x25 := hg5.cell (a := ⟨wr.heap.size, 2, none⟩) x2x (fun e => hg3g (by simpa using e)))
                    | (go_at_call 28; refine (refBounded_any least most hRb5).mono ?_; rintro e w6 ⟨rfl, hRb, hg6⟩; have hRa := HGA.out _ _ _ _ hRa5 hg6; have hEa := HGE2.out _ _ hE05 hg6; have x16 := hg6.cell (a := ⟨wr.heap.size, 1, none⟩) x15 (fun e => hg3g2 (by simpa using e)); have x26 := hg6.cell (a := ⟨wr.heap.size, 2, none⟩) x25 (fun e => hg3g2 (by simpa using e)))
                    | fail)
                generalize stepB least most bs a f = st at hRa hRb ⊢
                obtain ⟨n2, a2, f2⟩ := st
                dsimp only at hRa hRb ⊢
                clear hRa5 hRb5 hg5 hg6 x15 x25 x1x x2x hR1d hR2d
                have hb1 := hRb.c1
                have hb2 := hRb.c2
                have HQR := fun n => Lib.hid (hRa.ext ((Ext.refl _).drewN n))
                have HEQ := fun n => end_quiet (hRa.ext ((Ext.refl _).drewN n))
                cases f2
                · by_cases hat : a2 = m
                  · have hen : endE bs.length a2 false = 0 := by rw [← HML.out]; simp [endE, hat]
                    have hae : ((a2 : Int) == (m : Int)) = true := by simp [hat]
                    rw [hen] at HEQ
                    clear hat hen
                    go_wp2
                    go_quiet ((first
                      | (go_at_call 21; exact Calls.quiet_of_same (offset_q (HQR _).out))
                      | (go_at_call 22; exact Calls.quiet_of (HEQ _))))
                    go_wp2
                    go_roundw
                    case rel => exact ⟨q + 1, a2, _, by omega, by go_num, (HQR _).out, hRb.ext ((Ext.refl _).drewN _), hEa.drewN _⟩
                    case measure => simp [intOf]; omega
                  · have hen : endE bs.length a2 false = 4 := by rw [← HML.out]; simp [endE, hat]
                    have hae : ((a2 : Int) == (m : Int)) = false := by rw [beq_eq_false_iff_ne]; omega
                    rw [hen] at HEQ
                    clear hat hen
                    go_wp2
                    go_quiet ((first
                      | (go_at_call 21; exact Calls.quiet_of_same (offset_q (HQR _).out))
                      | (go_at_call 22; exact Calls.quiet_of (HEQ _))))
                    go_wp2
                    go_roundw
                    case rel => exact ⟨q + 1, a2, _, by omega, by go_num, (HQR _).out, hRb.ext ((Ext.refl _).drewN _), hEa.drewN _⟩
                    case measure => simp [intOf]; omega
                · have hen : endE bs.length a2 true = 4 := by simp [endE]
                  rw [hen] at HEQ
                  clear hen
                  go_wp2
                  go_quiet ((first
                    | (go_at_call 21; exact Calls.quiet_of_same (offset_q (HQR _).out))
                    | (go_at_call 22; exact Calls.quiet_of (HEQ _))))
                  go_wp2
                  go_roundw
                  case rel => exact ⟨q + 1, a2, _, by omega, by go_num, (HQR _).out, hRb.ext ((Ext.refl _).drewN _), hEa.drewN _⟩
                  case measure => simp [intOf]; omega
              · have k1' : (kd == 1) = false := by rw [beq_eq_false_iff_ne]; exact k1
                by_cases k2 : kd = 2
                · subst k2
                  go_wp2_with (first
                    | (go_at_call 26; refine Hid.out ?_))
                  rw [← HWX.out]
                  refine Hid.mk_ ((rString hR1x).mono ?_)
                  rintro e w5 ⟨rfl, hRa5, hg5⟩
                  have hRb5 := HGB.out _ _ _ _ hR2x hg5
                  go_wp2_with (first
                    | (go_at_call 29; refine Hid.out ?_))
                  refine Hid.mk_ ((refString_any hRb5).mono ?_)
                  rintro e w6 ⟨rfl, hRb, hg6⟩
                  have hRa := HGA.out _ _ _ _ hRa5 hg6
                  have hEa := HGE2.out _ _ (HGE.out _ _ hE0x hg5) hg6
                  generalize stepS bs a f = st at hRa hRb ⊢
                  obtain ⟨n2, a2, f2⟩ := st
                  dsimp only at hRa hRb ⊢
                  clear hRa5 hRb5 hg5 hg6
                  have hb1 := hRb.c1
                  have hb2 := hRb.c2
                  have HQR := fun n => Lib.hid (hRa.ext ((Ext.refl _).drewN n))
                  have HEQ := fun n => end_quiet (hRa.ext ((Ext.refl _).drewN n))
                  cases f2
                  · by_cases hat : a2 = m
                    · have hen : endE bs.length a2 false = 0 := by rw [← HML.out]; simp [endE, hat]
                      have hae : ((a2 : Int) == (m : Int)) = true := by simp [hat]
                      rw [hen] at HEQ
                      clear hat hen
                      go_wp2
                      go_quiet ((first
                        | (go_at_call 21; exact Calls.quiet_of_same (offset_q (HQR _).out))
                        | (go_at_call 22; exact Calls.quiet_of (HEQ _))))
                      go_wp2
                      go_roundw
                      case rel => exact ⟨q + 1, a2, _, by omega, by go_num, (HQR _).out, hRb.ext ((Ext.refl _).drewN _), hEa.drewN _⟩
                      case measure => simp [intOf]; omega
                    · have hen : endE bs.length a2 false = 4 := by rw [← HML.out]; simp [endE, hat]
                      have hae : ((a2 : Int) == (m : Int)) = false := by rw [beq_eq_false_iff_ne]; omega
                      rw [hen] at HEQ
                      clear hat hen
                      go_wp2
                      go_quiet ((first
                        | (go_at_call 21; exact Calls.quiet_of_same (offset_q (HQR _).out))
                        | (go_at_call 22; exact Calls.quiet_of (HEQ _))))
                      go_wp2
                      go_roundw
                      case rel => exact ⟨q + 1, a2, _, by omega, by go_num, (HQR _).out, hRb.ext ((Ext.refl _).drewN _), hEa.drewN _⟩
                      case measure => simp [intOf]; omega
                  · have hen : endE bs.length a2 true = 4 := by simp [endE]
                    rw [hen] at HEQ
                    clear hen
                    go_wp2
                    go_quiet ((first
                      | (go_at_call 21; exact Calls.quiet_of_same (offset_q (HQR _).out))
                      | (go_at_call 22; exact Calls.quiet_of (HEQ _))))
                    go_wp2
                    go_roundw
                    case rel => exact ⟨q + 1, a2, _, by omega, by go_num, (HQR _).out, hRb.ext ((Ext.refl _).drewN _), hEa.drewN _⟩
                    case measure => simp [intOf]; omega
                · have k2' : (kd == 2) = false := by rw [beq_eq_false_iff_ne]; exact k2
                  by_cases k3 : kd = 3
                  · subst k3
                    have x2x : wx.drew.cell? ⟨wr.heap.size, 2, none⟩ = some (.int .i64 most) := hbx.cell 2
                    have hR1d := hR1x.ext (Ext.refl _).drew
                    have hR2d := hR2x.ext (Ext.refl _).drew
                    have hE0d := hE0x.drew
                    have hg3g : wr.heap.size ≠ g := by omega
                    have hg3g2 : wr.heap.size ≠ g2 := by omega
                    have hm3 : m3 ≤ 300 := by have h1 := hR1.rd.len; have h2 := HML.out; omega
                    go_wp2
                    rw [← HWX.out]
                    go_region_held3 (fun w' => w'.cell? ⟨wr.heap.size, 2, none⟩ = some (.int .i64 most))
                      (first | go_keep | assumption)
                      (first
                        | (go_at_call 23; refine (rStrings most hR1d (by omega)).mono ?_; rintro e w5 ⟨A5, m5, c5, rfl, ho5, hRa5, hg5⟩; have hRb5 := HGB.out _ _ _ _ hR2d hg5; have hE05 := HGE.out _ _ hE0d hg5; have x25 := hg5.cell (a := ⟨wr.heap.size, 2, none⟩) x2x (fun e => hg3g (by simpa using e)); have hge5 := ho5.ge; have hlt5 := ho5.lt)
                        | (go_at_call 30; refine (refStrings_any most hRb5 (by omega)).mono ?_; rintro e w6 ⟨A6, m6, c6, rfl, ho6, hRb6, hg6⟩; have hRa6 := HGA.out _ _ _ _ hRa5 hg6; have hE06 := HGE2.out _ _ hE05 hg6; have x26 := hg6.cell (a := ⟨wr.heap.size, 2, none⟩) x25 (fun e => hg3g2 (by simpa using e)); have ho5' := ho5.kept hg6 (ne_of_lt (B := g2 + 1) (fun k hk => by have h1 := hge5 k hk; have h2 := hR2d.blk.lt; omega) (fun k hk => by injection hk with hk; omega)))
                        | (go_at_call 25; refine (sameSs c5 c6 ho5'.sl ho6.sl).mono ?_; rintro e w7 ⟨rfl, hE7⟩; have x27 := cell_later hE7 x26; have hRa := hRa6.ext hE7; have hRb := hRb6.ext hE7; have hEa := hE06.trans hE7)
                        | fail)
                    generalize stepL most bs a f = st at hRa hRb ⊢
                    obtain ⟨n2, a2, f2⟩ := st
                    dsimp only at hRa hRb ⊢
                    clear hRa5 hRb5 hg5 hg6 x25 x2x hR1d hR2d hRa6 hRb6 hge5 hlt5
                    have hb1 := hRb.c1
                    have hb2 := hRb.c2
                    have HQR := fun n => Lib.hid (hRa.ext ((Ext.refl _).drewN n))
                    have HEQ := fun n => end_quiet (hRa.ext ((Ext.refl _).drewN n))
                    cases f2
                    · by_cases hat : a2 = m
                      · have hen : endE bs.length a2 false = 0 := by rw [← HML.out]; simp [endE, hat]
                        have hae : ((a2 : Int) == (m : Int)) = true := by simp [hat]
                        rw [hen] at HEQ
                        clear hat hen
                        go_wp2
                        go_quiet ((first
                          | (go_at_call 21; exact Calls.quiet_of_same (offset_q (HQR _).out))
                          | (go_at_call 22; exact Calls.quiet_of (HEQ _))))
                        go_wp2
                        go_roundw
                        case rel => exact ⟨q + 1, a2, _, by omega, by go_num, (HQR _).out, hRb.ext ((Ext.refl _).drewN _), hEa.drewN _⟩
                        case measure => simp [intOf]; omega
                      · have hen : endE bs.length a2 false = 4 := by rw [← HML.out]; simp [endE, hat]
                        have hae : ((a2 : Int) == (m : Int)) = false := by rw [beq_eq_false_iff_ne]; omega
                        rw [hen] at HEQ
                        clear hat hen
                        go_wp2
                        go_quiet ((first
                          | (go_at_call 21; exact Calls.quiet_of_same (offset_q (HQR _).out))
                          | (go_at_call 22; exact Calls.quiet_of (HEQ _))))
                        go_wp2
                        go_roundw
                        case rel => exact ⟨q + 1, a2, _, by omega, by go_num, (HQR _).out, hRb.ext ((Ext.refl _).drewN _), hEa.drewN _⟩
                        case measure => simp [intOf]; omega
                    · have hen : endE bs.length a2 true = 4 := by simp [endE]
                      rw [hen] at HEQ
                      clear hen
                      go_wp2
                      go_quiet ((first
                        | (go_at_call 21; exact Calls.quiet_of_same (offset_q (HQR _).out))
                        | (go_at_call 22; exact Calls.quiet_of (HEQ _))))
                      go_wp2
                      go_roundw
                      case rel => exact ⟨q + 1, a2, _, by omega, by go_num, (HQR _).out, hRb.ext ((Ext.refl _).drewN _), hEa.drewN _⟩
                      case measure => simp [intOf]; omega
                  · have k3' : (kd == 3) = false := by rw [beq_eq_false_iff_ne]; exact k3
                    by_cases k4 : kd = 4
                    · subst k4
                      go_wp2_with (first
                        | (go_at_call 31; refine Hid.out ?_))
                      rw [← HWX.out]
                      refine Hid.mk_ ((fail_any hR1x).mono ?_)
                      rintro e w5 ⟨rfl, hRa5, hg5⟩
                      have hRb5 := HGB.out _ _ _ _ hR2x hg5
                      have f2z := hRb5.f2
                      have c2z := hRb5.c2
                      have HRa := Lib.hid (HGA.out _ _ _ _ hRa5 (hRb5.grow 2 (.bool true)))
                      have HRb := Lib.hid (hRb5.set2 true)
                      have HEa := Lib.hid (HGE2.out _ _ (HGE.out _ _ hE0x hg5) (hRb5.grow 2 (.bool true)))
                      clear hRa5 hRb5
                      go_wp2
                      obtain ⟨w6, hw6⟩ : ∃ w6, w6 = w5.setCell ⟨g2, 2, none⟩ (.bool true) := ⟨_, rfl⟩
                      rw [← hw6] at HRa HRb HEa ⊢
                      have hRa := HRa.out
                      have hRb := HRb.out
                      have hEa := HEa.out
                      clear HRa HRb HEa hw6 f2z c2z
                      obtain ⟨a2, ha2⟩ : ∃ a2, a2 = a := ⟨_, rfl⟩
                      obtain ⟨f2, hf2⟩ : ∃ f2, f2 = true := ⟨_, rfl⟩
                      rw [← ha2, ← hf2] at hRa hRb
                      clear ha2 hf2
                      have hb1 := hRb.c1
                      have hb2 := hRb.c2
                      have HQR := fun n => Lib.hid (hRa.ext ((Ext.refl _).drewN n))
                      have HEQ := fun n => end_quiet (hRa.ext ((Ext.refl _).drewN n))
                      cases f2
                      · by_cases hat : a2 = m
                        · have hen : endE bs.length a2 false = 0 := by rw [← HML.out]; simp [endE, hat]
                          have hae : ((a2 : Int) == (m : Int)) = true := by simp [hat]
                          rw [hen] at HEQ
                          clear hat hen
                          go_wp2
                          go_quiet ((first
                            | (go_at_call 21; exact Calls.quiet_of_same (offset_q (HQR _).out))
                            | (go_at_call 22; exact Calls.quiet_of (HEQ _))))
                          go_wp2
                          go_roundw
                          case rel => exact ⟨q + 1, a2, _, by omega, by go_num, (HQR _).out, hRb.ext ((Ext.refl _).drewN _), hEa.drewN _⟩
                          case measure => simp [intOf]; omega
                        · have hen : endE bs.length a2 false = 4 := by rw [← HML.out]; simp [endE, hat]
                          have hae : ((a2 : Int) == (m : Int)) = false := by rw [beq_eq_false_iff_ne]; omega
                          rw [hen] at HEQ
                          clear hat hen
                          go_wp2
                          go_quiet ((first
                            | (go_at_call 21; exact Calls.quiet_of_same (offset_q (HQR _).out))
                            | (go_at_call 22; exact Calls.quiet_of (HEQ _))))
                          go_wp2
                          go_roundw
                          case rel => exact ⟨q + 1, a2, _, by omega, by go_num, (HQR _).out, hRb.ext ((Ext.refl _).drewN _), hEa.drewN _⟩
                          case measure => simp [intOf]; omega
                      · have hen : endE bs.length a2 true = 4 := by simp [endE]
                        rw [hen] at HEQ
                        clear hen
                        go_wp2
                        go_quiet ((first
                          | (go_at_call 21; exact Calls.quiet_of_same (offset_q (HQR _).out))
                          | (go_at_call 22; exact Calls.quiet_of (HEQ _))))
                        go_wp2
                        go_roundw
                        case rel => exact ⟨q + 1, a2, _, by omega, by go_num, (HQR _).out, hRb.ext ((Ext.refl _).drewN _), hEa.drewN _⟩
                        case measure => simp [intOf]; omega
                    · have k4' : (kd == 4) = false := by rw [beq_eq_false_iff_ne]; exact k4
                      have hRa := hR1x
                      have hRb := hR2x
                      have hEa := hE0x
                      go_wp2
                      rw [← HWX.out]
                      obtain ⟨a2, ha2⟩ : ∃ a2, a2 = a := ⟨_, rfl⟩
                      obtain ⟨f2, hf2⟩ : ∃ f2, f2 = f := ⟨_, rfl⟩
                      rw [← ha2, ← hf2] at hRa hRb
                      clear ha2 hf2
                      have hb1 := hRb.c1
                      have hb2 := hRb.c2
                      have HQR := fun n => Lib.hid (hRa.ext ((Ext.refl _).drewN n))
                      have HEQ := fun n => end_quiet (hRa.ext ((Ext.refl _).drewN n))
                      cases f2
                      · by_cases hat : a2 = m
                        · have hen : endE bs.length a2 false = 0 := by rw [← HML.out]; simp [endE, hat]
                          have hae : ((a2 : Int) == (m : Int)) = true := by simp [hat]
                          rw [hen] at HEQ
                          clear hat hen
                          go_wp2
                          go_quiet ((first
                            | (go_at_call 21; exact Calls.quiet_of_same (offset_q (HQR _).out))
                            | (go_at_call 22; exact Calls.quiet_of (HEQ _))))
                          go_wp2
                          go_roundw
                          case rel => exact ⟨q + 1, a2, _, by omega, by go_num, (HQR _).out, hRb.ext ((Ext.refl _).drewN _), hEa.drewN _⟩
                          case measure => simp [intOf]; omega
                        · have hen : endE bs.length a2 false = 4 := by rw [← HML.out]; simp [endE, hat]
                          have hae : ((a2 : Int) == (m : Int)) = false := by rw [beq_eq_false_iff_ne]; omega
                          rw [hen] at HEQ
                          clear hat hen
                          go_wp2
                          go_quiet ((first
                            | (go_at_call 21; exact Calls.quiet_of_same (offset_q (HQR _).out))
                            | (go_at_call 22; exact Calls.quiet_of (HEQ _))))
                          go_wp2
                          go_roundw
                          case rel => exact ⟨q + 1, a2, _, by omega, by go_num, (HQR _).out, hRb.ext ((Ext.refl _).drewN _), hEa.drewN _⟩
                          case measure => simp [intOf]; omega
                      · have hen : endE bs.length a2 true = 4 := by simp [endE]
                        rw [hen] at HEQ
                        clear hen
                        go_wp2
                        go_quiet ((first
                          | (go_at_call 21; exact Calls.quiet_of_same (offset_q (HQR _).out))
                          | (go_at_call 22; exact Calls.quiet_of (HEQ _))))
                        go_wp2
                        go_roundw
                        case rel => exact ⟨q + 1, a2, _, by omega, by go_num, (HQR _).out, hRb.ext ((Ext.refl _).drewN _), hEa.drewN _⟩
                        case measure => simp [intOf]; omega
          · go_wp2
            go_ret
            exact ⟨rfl, hE1'⟩

set_option maxRecDepth 100000 in
theorem liftedPackReads (os : Os) (started : os.Started) (H : Type) (enc : TypeId × Value → H) :
    ReturnsInHanded {} Try.checked os 8 .any (Rows.packReadsSpec.pre6 enc Try.prog Try.f8 Rows.packReadsRow.domain false) (Rows.packReadsSpec.post enc Try.prog Try.f8 false true false false) := by
  refine returnsInHanded_of_change_sized (C := Try.checked) ownK started (by kernel_rfl) Try.func8
    (ChangeSpec.witness6 (enc := enc) (C := Try.checked) false ⟨#[], #[.slice none 0 0, .slice none 0 0], []⟩ 8 (by kernel_rfl) (by kernel_rfl) (by kernel_rfl) (by kernel_rfl)) ?_
  intro W base args ds gs before hval0 hW hcnd hsz0 _
  have hval : ∀ (j : Nat) t v, Try.f8.params[j]? = some t → args[j]? = some v → Value.okWide Try.prog W .any base t v := hval0
  have hW' := hW
  obtain ⟨p, q, hA0, hV, rfl, hfz, hnd⟩ := hW
  have hA : DataW.TrodAll enc Try.prog W 0 (fun _ => true) true Try.f8.params.toList args.toList ds p := hA0
  have hsz : (DataW.weightsEach Try.prog (Try.f8.params.toList ++ Rows.packReadsSpec.plain.varTypes Try.prog) (ds ++ gs)).all (· ≤ reachBytes) = true := hsz0
  rw [Try.params8] at hA hval hsz
  obtain ⟨v0, vs0, d0, ds0, p0, q0, hargs0, rfl, rfl, h0, r0⟩ := trodAll_cons hA
  obtain ⟨v1, vs1, d1, ds1, p1, q1, hargs1, rfl, rfl, h1, r1⟩ := trodAll_cons r0
  obtain ⟨rfl, rfl, rfl⟩ := trodAll_nil r1
  obtain rfl : args = #[v0, v1] := by cases args; simp_all
  obtain ⟨rfl, rfl⟩ := trodVars_none hV
  have k0 := h0
  have lt0 : ∀ x ∈ p0, x.block < W.heap.size := by obtain ⟨m, hm⟩ := k0; exact DataW.trod_lt m _ _ _ hm
  have k1 := h1
  have lt1 : ∀ x ∈ p1, x.block < W.heap.size := by obtain ⟨m, hm⟩ := k1; exact DataW.trod_lt m _ _ _ hm
  obtain ⟨A0, m0, c0, l0, rfl, w0, hc0, hb0⟩ := open_bytesK (hval 0 22 v0 rfl rfl) h0 (fun elems spare hd => sized_slice hsz (j := 0) (t := 22) (e := 5) rfl (by rw [hd]; rfl) Try.underlying22) lt0
  obtain ⟨A1, m1, c1, l1, rfl, w1, hg1, hc1⟩ := open_sliceK stC (fun _ => True) (t := 48) (e := 53) Try.underlying48 cells_step (by omega) stC_len (by rw [bytes_step]; omega) (hval 1 48 v1 rfl rfl) h1
    (fun elems spare hd => sized_slice hsz (j := 1) (t := 48) (e := 53) rfl (by rw [hd]; rfl) Try.underlying48) step_elem
  clear hA0 hval0
  refine (reads_walk c0 c1 W w0 hc0 w1).mono fun e W' ⟨he, bel⟩ => ?_
  subst he
  exact ⟨_, rfl, _, _, _, [], _, [], hW', trodAll_mk1 (shut_bool Try.underlying4 _), (trodAll_cons_mk (Below.trod laidK (by kernel_rfl) (of_decide_eq_true (by kernel_rfl)) k0 bel lt0) (trodAll_cons_mk (Below.trod laidK (by kernel_rfl) (of_decide_eq_true (by kernel_rfl)) k1 bel lt1) trodAll_mk0)), rfl, Below.frame bel _, fun h => by cases h⟩
theorem PackReads_holds : Rows.PackReadsSaid :=
  OpenClaim.holds_of_wide 8 Try.f8 rfl rfl rfl rfl rfl rfl rfl ⟨rfl, rfl, rfl, rfl, rfl⟩ rfl rfl rfl rfl rfl (by kernel_rfl) Try.func8 (by kernel_rfl)
    (of_decide_eq_true (by kernel_rfl)) (by unfold Func.isWrapper; rw [if_neg (of_decide_eq_false (by kernel_rfl))]; exact ⟨rfl, rfl⟩)
    (fun os started H enc _ => liftedPackReads os started H enc)

end Go.Proofs.Ythkdnioljajcoaa
