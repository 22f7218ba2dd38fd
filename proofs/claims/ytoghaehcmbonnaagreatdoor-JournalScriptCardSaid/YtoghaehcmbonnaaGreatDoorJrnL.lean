/- journal.last: the number in the last eight bytes, by slices.Backward. -/
import Derived.Test.YtoghaehcmbonnaaGreatDoorRStrs
import Derived.Test.YtoghaehcmbonnaaGreatDoorDigP
import Derived.RangeFuncBox
import Derived.RangeFuncLeaves
import Derived.Shelf.Abstract
import Derived.WalkKit
import Derived.OwnWalkIn
import Derived.TacticsInMore
import Derived.LoopNIn
import Derived.LoopIn
namespace Go.Proofs.YtoghaehcmbonnaaGreatDoor
open Go.RowKit Go.Shelf
set_option maxRecDepth 100000
attribute [local go_sem] Oper.semAt_some

/-- A fence that bars nothing. -/
def F0 : Fence := { fn := fun _ => True }
/-- What has come when k rounds are over. -/
def upto {α : Type} (f : Nat → α) (k : Nat) : List α := (List.range k).map f
theorem upto_succ {α : Type} (f : Nat → α) (k : Nat) : upto f (k + 1) = upto f k ++ [f k] := by simp [upto, List.range_succ]
theorem upto_length {α : Type} (f : Nat → α) (k : Nat) : (upto f k).length = k := by simp [upto]
/-- What a round keeps: all below n₀, and the box of the slice. -/
def KpB (n₀ Bs : Nat) (W W' : World) : Prop := Below n₀ W W' ∧ ∀ v, W.cell? ⟨Bs, 0, none⟩ = some v → W'.cell? ⟨Bs, 0, none⟩ = some v
theorem KpB.refl (n₀ Bs : Nat) (W : World) : KpB n₀ Bs W W := ⟨Below.refl _ _, fun _ h => h⟩
theorem KpB.trans {n₀ Bs : Nat} {A B C : World} (h : KpB n₀ Bs A B) (k : KpB n₀ Bs B C) : KpB n₀ Bs A C := ⟨h.1.trans k.1, fun v hv => k.2 v (h.2 v hv)⟩
/-- The places and bytes of a list from behind. -/
def backF (l : List UInt8) (j : Nat) : Nat × UInt8 := (l.length - 1 - j, l[l.length - 1 - j]?.getD 0)
section
variable {w : World}
set_option maxHeartbeats 2000000 in
theorem back1_in (F : Fence) (n : Nat) (h8 : F.fn 87) (hro : F.round = none) (hn : 1 ≤ n) (q Bs n₀ b off cap : Nat) (l : List UInt8) (hl : l.length ≤ 1000) (hb : b < n₀) (J Jx : List (Nat × UInt8) → World → Prop)
    (hY : ∀ pre x W, J pre W → pre.length < l.length → YieldAt F (n - 1) Tryz.prog q #[.int .i64 (x.1 : Int), .int .u8 (x.2.toNat : Int)] W fun e W' =>
      (e = .returned (.bool true) ∧ J (pre ++ [x]) W' ∧ KpB n₀ Bs W W') ∨ (e = .returned (.bool false) ∧ Jx (pre ++ [x]) W'))
    (W : World) (hBs : W.cell? ⟨Bs, 0, none⟩ = some (.slice (some ⟨b, off, none⟩) l.length cap)) (hc : ∀ j (hj : j < l.length), W.cell? ⟨b, off + j, none⟩ = some (.int .u8 (l[j].toNat : Int))) (h0 : J [] W) :
    CallsIn F n Tryz.prog 87 #[.func (.yield q) #[] #[], .pointer (some ⟨Bs, 0, none⟩)] W fun e W' => (∃ v, e = .returned v) ∧
      ((∃ ys, ys = upto (backF l) l.length ∧ J ys W') ∨ (∃ pre, (∃ k, k ≤ l.length ∧ pre = upto (backF l) k) ∧ Jx pre W')) := by
  refine callsIn_of_wp Tryz.func87 rfl h8 ?_ hro
  simp only [Tryz.ntmps87, List.size_toArray, List.length_cons, List.length_nil, Nat.reduceAdd, Nat.reduceSub, Array.replicate_succ, Array.replicate_zero, List.push_toArray, List.append_toArray, List.nil_append, List.cons_append]
  gi_wp2
  gi_loopw [3] (fun i wr => ∃ k : Nat, k ≤ l.length ∧ i = .int .i64 ((l.length : Int) - 1 - k) ∧ J (upto (backF l) k) wr ∧ KpB n₀ Bs W wr)
    (fun i _ => (intOf i + 1).toNat)
  case atStart => exact ⟨0, Nat.zero_le _, by simp, h0, KpB.refl _ _ _⟩
  case round =>
    obtain ⟨k, hk, rfl, hJs, hnx⟩ := hrel
    have hBs' : wr.cell? ⟨Bs, 0, none⟩ = some (.slice (some ⟨b, off, none⟩) l.length cap) := hnx.2 _ hBs
    by_cases hlt : k < l.length
    · obtain ⟨j, hj⟩ : ∃ j, j = l.length - 1 - k := ⟨_, rfl⟩
      have hjl : j < l.length := by omega
      have hji : (l.length : Int) - 1 - k = (j : Int) := by omega
      have hcx : wr.cell? ⟨b, off + j, none⟩ = some (.int .u8 (l[j].toNat : Int)) := (hnx.1.cell (p := ⟨b, off + j, none⟩) hb).trans (hc j hjl)
      have hbf : backF l k = (j, l[j]) := by unfold backF; rw [← hj, List.getElem?_eq_getElem hjl]; rfl
      obtain ⟨fn, tmps, assign, body, hy, hR⟩ := hY _ (j, l[j]) wr hJs (by rw [upto_length]; exact hlt)
      have hup : upto (backF l) (k + 1) = upto (backF l) k ++ [(j, l[j])] := by rw [upto_succ, hbf]
      have HUP := Lib.hid hup
      have hj2 : (l.length : Int) - 1 - ((k + 1 : Nat) : Int) = (j : Int) - 1 := by omega
      have HJ2 := Lib.hid hj2
      rw [hji]
      dsimp only at hy
      obtain ⟨x, hx⟩ : ∃ x, x = l[j] := ⟨_, rfl⟩
      rw [← hx] at hcx hy hR HUP
      clear hup hbf hj hji hj2 hx hc hY
      gi_wp2
      refine hR.mono ?_
      rintro e W3 (⟨rfl, hJ3, hk3⟩ | ⟨rfl, hJx3⟩)
      · gi_wp2
        go_roundw
        case rel => exact ⟨k + 1, by omega, by rw [HJ2.out], by rw [HUP.out]; exact hJ3, hnx.trans hk3⟩
        case measure => simp [intOf]
      · gi_wp2
        refine bodyPost_ret (results_none rfl _ _ _) rfl ?_
        exact ⟨⟨_, rfl⟩, .inr ⟨_, ⟨k + 1, by omega, HUP.out.symm⟩, hJx3⟩⟩
    · obtain rfl : k = l.length := by omega
      have hz : (l.length : Int) - 1 - (l.length : Int) = -1 := by omega
      rw [hz]
      clear hz
      gi_wp2
      go_end0
      exact ⟨⟨_, rfl⟩, .inl ⟨_, rfl, hJs⟩⟩
theorem back_in (F : Fence) (n : Nat) (h5 : F.fn 64) (hro : F.round = none) (a : Option Addr) (len cap : Nat) (w : World) :
    CallsIn F n Tryz.prog 64 #[.slice a len cap] w fun e w' => e = .returned (.func (.func 87) #[] #[.pointer (some ⟨w.heap.size, 0, none⟩)]) ∧ w' = w.alloc (.cells #[.slice a len cap] 22) := by
  refine callsIn_of_wp Tryz.func64 rfl h5 ?_ hro
  simp only [Tryz.ntmps64, List.size_toArray, List.length_cons, List.length_nil, Nat.reduceAdd, Nat.reduceSub, Array.replicate_succ, Array.replicate_zero, List.push_toArray, List.append_toArray, List.nil_append, List.cons_append]
  gi_wp2
  go_ret
  exact ⟨rfl, rfl⟩
theorem back_stops (F : Fence) (n : Nat) (h8 : F.fn 87) (hro : F.round = none) (hn : 1 ≤ n) (Bs n₀ b off cap : Nat) (l : List UInt8) (hl : l.length ≤ 1000) (hb : b < n₀) (w : World) (hBn : Bs < w.heap.size) (hn₀ : n₀ ≤ w.heap.size)
    (hBs : w.cell? ⟨Bs, 0, none⟩ = some (.slice (some ⟨b, off, none⟩) l.length cap)) (hc : ∀ j (hj : j < l.length), w.cell? ⟨b, off + j, none⟩ = some (.int .u8 (l[j].toNat : Int))) :
    SeqStopsK F n Tryz.prog 87 #[.pointer (some ⟨Bs, 0, none⟩)] (fun x : Nat × UInt8 => #[Value.int .i64 (x.1 : Int), Value.int .u8 (x.2.toNat : Int)]) (KpB n₀ Bs) (fun ys => ys = upto (backF l) l.length) (fun _ => True) l.length w := fun q J Jx W hW _ _ hY h0 => by
  refine (back1_in F n h8 hro hn q Bs n₀ b off cap l hl hb J Jx hY W ((hW.cell (p := ⟨Bs, 0, none⟩) hBn).trans hBs) (fun j hj => (hW.cell (p := ⟨b, off + j, none⟩) (by show b < _; omega)).trans (hc j hj)) h0).mono ?_
  rintro e W' ⟨he, ⟨ys, h1, hj⟩ | ⟨pre, _, hj⟩⟩
  · exact ⟨he, .inl ⟨ys, h1, hj⟩⟩
  · exact ⟨he, .inr ⟨pre, trivial, hj⟩⟩
/-- The number that places and bytes make. -/
def numB (pre : List (Nat × UInt8)) : Nat := pre.foldl (fun n p => 256 * n + p.2.toNat) 0
theorem numB_snoc (pre : List (Nat × UInt8)) (x : Nat × UInt8) : numB (pre ++ [x]) = 256 * numB pre + x.2.toNat := by simp [numB]
theorem numB_lt : ∀ (k : Nat) (pre : List (Nat × UInt8)), pre.length = k → numB pre < 256 ^ k
  | 0, pre, h => by rw [List.eq_nil_of_length_eq_zero h]; simp [numB]
  | k + 1, pre, h => by
    have hne : pre ≠ [] := fun e => by rw [e] at h; cases h
    have h1 := List.dropLast_concat_getLast hne
    rw [← h1, numB_snoc, Nat.pow_succ]
    have h2 := numB_lt k pre.dropLast (by rw [List.length_dropLast, h]; rfl)
    have h3 := (pre.getLast hne).2.toNat_lt
    omega
theorem numB_back : ∀ l : List UInt8, numB (upto (backF l) l.length) = ofEight l := by
  intro l
  have h : (upto (backF l) l.length).map Prod.snd = l.reverse := by
    apply List.ext_getElem
    · simp [upto]
    · intro i h1 h2
      simp only [upto, List.map_map, List.getElem_map, List.getElem_range, Function.comp, backF]
      rw [List.getElem_reverse, List.getElem?_eq_getElem (by simp [upto] at h1; omega)]
      rfl
  have h2 : ∀ pre : List (Nat × UInt8), numB pre = (pre.map Prod.snd).foldl (fun n c => 256 * n + c.toNat) 0 := fun pre => by
    unfold numB
    rw [List.foldl_map]
  rw [h2, h, List.foldl_reverse]
  clear h h2
  induction l with
  | nil => rfl
  | cons x t ih => rw [List.foldr_cons, ih, ofEight]; omega
set_option maxHeartbeats 2000000 in
theorem last_in (F : Fence) (n : Nat) (h3 : F.fn 42) (h5 : F.fn 64) (h7 : F.fn 87) (hro : F.round = none) (hn : 3 ≤ n) {A : Option Addr} {m c : Nat} {l : List UInt8} (w : World) (hs : SlB w A m l) (hm : 8 ≤ m) (hc : m ≤ c) :
    CallsIn F n Tryz.prog 42 #[.slice A m c] w fun e W' => e = .returned (.int .u64 (ofEight (l.drop (m - 8)) : Nat)) ∧ Below w.heap.size w W' := by
  have h1 : 1 ≤ n := by omega
  have hle := hs.le
  have hlen := hs.len
  obtain ⟨A2, _, hr2, _, hs2, _⟩ := cut_run hs (i := m - 8) (j := m) (by omega) (Nat.le_refl _) hc
  have hd8 : (l.take m).drop (m - 8) = l.drop (m - 8) := by rw [List.take_of_length_le (by omega)]
  rw [hd8, show m - (m - 8) = 8 by omega] at hs2
  rw [show m - (m - 8) = 8 by omega] at hr2
  obtain ⟨b, off, rfl, hb, hcs⟩ := hs2.at_ (k := 0) (by omega)
  obtain ⟨l8, hl8⟩ : ∃ l8, l8 = l.drop (m - 8) := ⟨_, rfl⟩
  rw [← hl8] at hs2 hcs ⊢
  have hl8l : l8.length = 8 := hs2.len.symm
  have hcut := fun W => (hr2 W .i64 ((m : Int) - 8) (by omega) rfl).2
  have hcut2 := fun W => (hr2 W .i64 ((m : Int) - 8) (by omega) rfl).1
  have hm8 : (8 : Int) ≤ (m : Int) := by omega
  have HL := Lib.hid hl8l
  have HCS := Lib.hid hcs
  clear hr2 hd8 hl8 hs2 hl8l hcs hlen hs
  refine callsIn_of_wp_marks Tryz.func42 rfl h3 ?_ hro
  simp only [Tryz.ntmps42, List.size_toArray, List.length_cons, List.length_nil, Nat.reduceAdd, Nat.reduceSub, Array.replicate_succ, Array.replicate_zero, List.push_toArray, List.append_toArray, List.nil_append, List.cons_append]
  gi_wp2_with (gi_at_call 64; refine (back_in F (n - 1) h5 hro _ _ _ _).mono ?_; rintro e w' ⟨rfl, rfl⟩)
  have bN := Boxed.new w 60 (.int .u64 0)
  have bS := Boxed.new (w.alloc (.cells #[.int .u64 0] 60)) 22 (.slice (some ⟨b, off, none⟩) 8 (c - (m - 8)))
  rw [World.size_alloc] at bS
  have hB0 : Below w.heap.size w ((w.alloc (.cells #[.int .u64 0] 60)).alloc (.cells #[.slice (some ⟨b, off, none⟩) 8 (c - (m - 8))] 22)) := ((Below.refl _ w).alloc (Nat.le_refl _) _).alloc (by simp) _
  refine wpIn_rangeFunc_ownF hro h1 (gf := 87) (lb := #[.pointer (some ⟨w.heap.size + 1, 0, none⟩)]) rfl h7 (enters_of Tryz.func87 (by kernel_rfl) rfl)
    (back_stops F (n - 1) h7 hro (by omega) (w.heap.size + 1) w.heap.size b off (c - (m - 8)) l8 (by rw [HL.out]; omega) hb _ (by simp) (by simp; omega) (by rw [HL.out]; exact bS.cell) (fun j hj => (hB0.cell (p := ⟨b, off + j, none⟩) hb).trans (HCS.out j hj))) KpB.trans ?hKb (Below.refl _ _) (fun _ => rfl)
    (fun pre W => (W.cell? ⟨w.heap.size, 0, none⟩ = some (.int .u64 (numB pre : Nat)) ∧ W.frozen? ⟨w.heap.size, 0, none⟩ = false) ∧ Below w.heap.size w W)
    (fun _ _ _ => False)
    (OwnFrom.and (Own.from (fun s A B row hs hg hr => ⟨cell_kept hs.1 hg hr, (frozen_kept hs.1 hg hr).trans hs.2⟩) _) (ownFrom_below (Nat.le_refl _) (by simp; omega)))
    (fun _ _ _ _ _ hs _ _ => hs)
    ⟨⟨(bN.alloc _).cell, (bN.alloc _).frozen⟩, hB0⟩
    (fun x => { tmps := #[.slice A m c, undef, .int .u64 0, .pointer (some ⟨w.heap.size, 0, none⟩), undef, .int .u8 (x.2.toNat : Int), .slice A m c, .slice A m c, .int .i64 m, .int .i64 ((m : Int) - 8), .slice (some ⟨b, off, none⟩) 8 (c - (m - 8)), .func (.func 87) #[] #[.pointer (some ⟨w.heap.size + 1, 0, none⟩)], .int .i64 (x.1 : Int), .int .u8 (x.2.toNat : Int), undef, undef, undef, undef, undef, undef], defers := [] }) ?assign ?body ?done ?stop
  case hKb =>
    intro W q o o' hq ho hnc hnw
    refine ⟨belowK_b (by simp; omega) W q o o' hq ho hnc hnw, fun v hv => ?_⟩
    exact cell_kept hv (grownBy_putObj' W q o') (fun r e => by cases e; exact ⟨o, ho, hnc⟩)
  case assign =>
    intro q x W K hK
    gi_wp2
    exact hK
  case body =>
    rintro q pre x W ⟨⟨hcn, hfn⟩, hB⟩ hpl
    rw [HL.out] at hpl
    obtain ⟨u, hu⟩ : ∃ u, u = numB pre := ⟨_, rfl⟩
    have hlt : u < 72057594037927936 := by
      have h2 := numB_lt pre.length pre rfl
      rw [← hu] at h2
      have h3 : 256 ^ pre.length ≤ 256 ^ 7 := Nat.pow_le_pow_right (by omega) (by omega)
      have h4 : 256 ^ 7 = 72057594037927936 := by decide
      omega
    have hsn : numB (pre ++ [x]) = 256 * u + x.2.toNat := by rw [numB_snoc, hu]
    rw [← hu] at hcn
    obtain ⟨y, hy⟩ : ∃ y, y = x.2.toNat := ⟨_, rfl⟩
    have hy2 : y < 256 := by rw [hy]; exact UInt8.toNat_lt _
    rw [← hy] at hsn ⊢
    have hor := shl_or u y hlt hy2
    have HSN := Lib.hid hsn
    have HOR := Lib.hid hor
    clear hu hsn hy hor
    gi_wp2
    refine ⟨KeepsOthers.setCell _ _ _, ⟨(Below.refl w.heap.size W).setCell (p := ⟨w.heap.size, 0, none⟩) (Nat.le_refl _) _, fun v hv => (World.cell?_setCell_other W ⟨w.heap.size, 0, none⟩ ⟨w.heap.size + 1, 0, none⟩ _ (fun e => by injection e with e; omega)).trans hv⟩, ⟨?_, by rw [World.frozen?_setCell]; exact hfn⟩, hB.setCell (p := ⟨w.heap.size, 0, none⟩) (Nat.le_refl _) _⟩
    rw [HSN.out, ← HOR.out]
    exact World.cell?_setCell_same' _ _ _ (by rw [hcn]; rfl)
  case done =>
    rintro D ys W hD rfl ⟨⟨hcn, _⟩, hB⟩ hK
    have hnb := numB_back l8
    rw [hnb] at hcn
    gi_wp2
    refine ⟨by simp, .inl ⟨_, _, rfl, run_takeDeferred hK, ?_⟩⟩
    exact ⟨_, results_tmp rfl _ _ _, rfl, hB.trans (belowK_b (w := w) (Nat.le_refl _) W D _ _ (by simp at hD; omega) hK rfl rfl)⟩
  case stop =>
    rintro D c pre W _ _ h _
    exact h.elim
theorem last_any {A : Option Addr} {m : Nat} (c : Nat) {l : List UInt8} (hs : SlB w A m l) (hm : 8 ≤ m) (hc : m ≤ c) :
    Calls Tryz.prog 42 #[.slice A m c] w fun e w' => e = .returned (.int .u64 (ofEight (l.drop (m - 8)) : Nat)) ∧ Ext w w' :=
  (last_in F0 3 trivial trivial trivial rfl (Nat.le_refl _) w hs hm hc).calls fun k d hd => by cases hd
end

end Go.Proofs.YtoghaehcmbonnaaGreatDoor
