/- Structs compared with themselves. -/
import Derived.Test.YtdgppdiickmofaaGreatDoorPQ28
namespace Go.Proofs.YtdgppdiickmofaaGreatDoor
open Go.RowKit
set_option maxRecDepth 100000
section
theorem neq_sp (a b : Int) (W : World) : (binOp .neq 123 (.agg #[.int .i64 a, .int .i64 b]) (.agg #[.int .i64 a, .int .i64 b])).run Tryz.prog W = .ok (.bool false) W := by
  have h1 : Tryz.prog.stoodInHeld 123 = false := by kernel_rfl
  have h2 := Tryz.underlying123
  have h3 : Tryz.prog.underlying 123 = some (.struct (Tryz.prog.fieldsOf 123)) := by kernel_rfl
  have h4 := Tryz.underlying3
  have h6 := Tryz.isAgg3
  rw [run_neq_struct, run_equalIn_agg _ _ _ _ _ h3 h1]
  unfold Program.fieldsOf
  rw [h2]
  simp [Op.eqFields, Sem.run_bind, part, h6, run_equalIn_int _ _ _ _ _ _ _ h4]
theorem gneq_sp (a b : Int) (x y : Operand) (W : World) : (eqGuard .neq 123 x y (.agg #[.int .i64 a, .int .i64 b]) (.agg #[.int .i64 a, .int .i64 b])).run Tryz.prog W = .ok () W := run_eqGuard_agg _ _ _ _ _ _ _ (by kernel_rfl)
theorem neq_lp (a b c d e : ByteArray) (W : World) : (binOp .neq 71 (.agg #[.string a, .string b, .string c, .string d, .string e]) (.agg #[.string a, .string b, .string c, .string d, .string e])).run Tryz.prog W = .ok (.bool false) W := by
  have h1 : Tryz.prog.stoodInHeld 71 = false := by kernel_rfl
  have h2 := Tryz.underlying71
  have h3 : Tryz.prog.underlying 71 = some (.struct (Tryz.prog.fieldsOf 71)) := by kernel_rfl
  have h4 := Tryz.underlying9
  have h6 := Tryz.isAgg9
  rw [run_neq_struct, run_equalIn_agg _ _ _ _ _ h3 h1]
  unfold Program.fieldsOf
  rw [h2]
  simp [Op.eqFields, Sem.run_bind, part, h6, run_equalIn_string _ _ _ _ _ h4]
theorem gneq_lp (a b c d e : ByteArray) (x y : Operand) (W : World) : (eqGuard .neq 71 x y (.agg #[.string a, .string b, .string c, .string d, .string e]) (.agg #[.string a, .string b, .string c, .string d, .string e])).run Tryz.prog W = .ok () W := run_eqGuard_agg _ _ _ _ _ _ _ (by kernel_rfl)
theorem neq_up (a b c : ByteArray) (W : World) : (binOp .neq 79 (.agg #[.string a, .string b, .string c]) (.agg #[.string a, .string b, .string c])).run Tryz.prog W = .ok (.bool false) W := by
  have h1 : Tryz.prog.stoodInHeld 79 = false := by kernel_rfl
  have h2 := Tryz.underlying79
  have h3 : Tryz.prog.underlying 79 = some (.struct (Tryz.prog.fieldsOf 79)) := by kernel_rfl
  have h4 := Tryz.underlying9
  have h6 := Tryz.isAgg9
  rw [run_neq_struct, run_equalIn_agg _ _ _ _ _ h3 h1]
  unfold Program.fieldsOf
  rw [h2]
  simp [Op.eqFields, Sem.run_bind, part, h6, run_equalIn_string _ _ _ _ _ h4]
theorem gneq_up (a b c : ByteArray) (x y : Operand) (W : World) : (eqGuard .neq 79 x y (.agg #[.string a, .string b, .string c]) (.agg #[.string a, .string b, .string c])).run Tryz.prog W = .ok () W := run_eqGuard_agg _ _ _ _ _ _ _ (by kernel_rfl)
theorem neq_dp (a b : ByteArray) (W : World) : (binOp .neq 89 (.agg #[.string a, .string b]) (.agg #[.string a, .string b])).run Tryz.prog W = .ok (.bool false) W := by
  have h1 : Tryz.prog.stoodInHeld 89 = false := by kernel_rfl
  have h2 := Tryz.underlying89
  have h3 : Tryz.prog.underlying 89 = some (.struct (Tryz.prog.fieldsOf 89)) := by kernel_rfl
  have h4 := Tryz.underlying9
  have h6 := Tryz.isAgg9
  rw [run_neq_struct, run_equalIn_agg _ _ _ _ _ h3 h1]
  unfold Program.fieldsOf
  rw [h2]
  simp [Op.eqFields, Sem.run_bind, part, h6, run_equalIn_string _ _ _ _ _ h4]
theorem gneq_dp (a b : ByteArray) (x y : Operand) (W : World) : (eqGuard .neq 89 x y (.agg #[.string a, .string b]) (.agg #[.string a, .string b])).run Tryz.prog W = .ok () W := run_eqGuard_agg _ _ _ _ _ _ _ (by kernel_rfl)
theorem neq_sy (a b c d : ByteArray) (e f : Int) (W : World) : (binOp .neq 33 (.agg #[.string a, .string b, .string c, .string d, .int .i64 e, .int .i64 f]) (.agg #[.string a, .string b, .string c, .string d, .int .i64 e, .int .i64 f])).run Tryz.prog W = .ok (.bool false) W := by
  have h1 : Tryz.prog.stoodInHeld 33 = false := by kernel_rfl
  have h2 := Tryz.underlying33
  have h3 : Tryz.prog.underlying 33 = some (.struct (Tryz.prog.fieldsOf 33)) := by kernel_rfl
  have h4 := Tryz.underlying9
  have h5 := Tryz.underlying3
  have h6 := Tryz.isAgg9
  have h7 := Tryz.isAgg3
  rw [run_neq_struct, run_equalIn_agg _ _ _ _ _ h3 h1]
  unfold Program.fieldsOf
  rw [h2]
  simp [Op.eqFields, Sem.run_bind, part, h6, h7, run_equalIn_string _ _ _ _ _ h4, run_equalIn_int _ _ _ _ _ _ _ h5]
theorem gneq_sy (a b c d : ByteArray) (e f : Int) (x y : Operand) (W : World) : (eqGuard .neq 33 x y (.agg #[.string a, .string b, .string c, .string d, .int .i64 e, .int .i64 f]) (.agg #[.string a, .string b, .string c, .string d, .int .i64 e, .int .i64 f])).run Tryz.prog W = .ok () W := run_eqGuard_agg _ _ _ _ _ _ _ (by kernel_rfl)
end
end Go.Proofs.YtdgppdiickmofaaGreatDoor

/- The references of the whole fallback: equal rules. -/
namespace Go.Proofs.YtdgppdiickmofaaGreatDoor
open Go.RowKit
set_option maxRecDepth 100000
attribute [local go_sem] ext_refl_t ext_alloc_t ext_drew_t ext_drewN_t ext_alloc2_t ext_alloc3_t ext_alloc4_t ext_alloc5_t ext_alloc6_t ext_alloc7_t ext_alloc8_t ext_alloc1d_t ext_alloc2d_t ext_alloc3d_t ext_alloc4d_t
attribute [local go_sem] yielded_undef neq_sp gneq_sp
theorem plRl_of {x y : RlH} (h : plRl x = plRl y) : x.op = y.op ∧ x.md = y.md ∧ x.neg = y.neg ∧ x.l = y.l := by
  unfold plRl at h
  simpa using h
/-- Two of the same content, element by element. -/
theorem map_at {α β : Type} {f : α → β} {l l' : List α} (h : l.map f = l'.map f) {i : Nat} (hi : i < l.length) : ∃ hi' : i < l'.length, f l[i] = f l'[i] := by
  have hl : l.length = l'.length := by have := congrArg List.length h; rwa [List.length_map, List.length_map] at this
  refine ⟨by omega, ?_⟩
  have h1 : (l.map f)[i]? = (l'.map f)[i]? := by rw [h]
  rw [List.getElem?_map, List.getElem?_map, List.getElem?_eq_getElem hi, List.getElem?_eq_getElem (by omega : i < l'.length)] at h1
  simpa using h1
theorem map_len {α β : Type} {f : α → β} {l l' : List α} (h : l.map f = l'.map f) : l.length = l'.length := by have := congrArg List.length h; rwa [List.length_map, List.length_map] at this
theorem blk_newR (w : World) (o : Obj) (t : TypeId) (cs : Array Value) : Blk ((w.alloc o).alloc (.cells cs t)) (w.heap.size + 1) t cs := by
  have h := Blk.new (w.alloc o) t cs
  simpa using h
section
variable {w : World} {S : Nat → Prop}
set_option maxHeartbeats 12800000 in
theorem sameCond_any {h h' : SlH} {l l' : List RwH} (hw : HW rwC 1 24 (fun _ => True) w h l) (hw' : HW rwC 1 24 (fun _ => True) w h' l') (hd : ∀ y ∈ l, DRw w S y) (hd' : ∀ y ∈ l', DRw w S y) (he : l.map plRw = l'.map plRw) :
    Calls Tryz.prog 68 #[.slice h.A h.m h.c, .slice h'.A h'.m h'.c] w fun e w' => e = .returned (.bool true) ∧ Ext w w' := by
  obtain ⟨A, m, c⟩ := h
  obtain ⟨A', m', c'⟩ := h'
  dsimp only
  have hmm : m = m' := by have h1 := hw.sl.len; have h2 := hw'.sl.len; have h3 := map_len he; dsimp only at h1 h2; omega
  subst hmm
  have HL : Hid (m = l.length) := hw.sl.len
  have hle : m < 2 ^ 44 := by have := hw.bd; dsimp only at this; omega
  have HW1 := Lib.hid hw
  have HW2 := Lib.hid hw'
  have HD1 := Lib.hid hd
  have HD2 := Lib.hid hd'
  have HEQ := Lib.hid he
  clear hw hw' hd hd' he
  go_enter Tryz.func68, Tryz.ntmps68
  go_wp2
  go_loopw [5, 6, 7, 8, 9] (fun i _ _ _ _ wr => ∃ q : Nat, q ≤ m ∧ i = .int .i64 q ∧ Ext w wr) (fun i _ _ _ _ _ => m - (intOf i).toNat)
  case atStart => exact ⟨0, Nat.zero_le _, rfl, Ext.refl _⟩
  case round =>
    obtain ⟨q, hq, rfl, hE⟩ := hrel
    by_cases hlt : q < m
    · obtain ⟨b, off, e0, hbl, hcs⟩ := (HW1.out.sl.ext hE).at_ hlt (by omega)
      dsimp only at e0
      subst e0
      obtain ⟨b', off', e0, hbl', hcs'⟩ := (HW2.out.sl.ext hE).at_ hlt (by omega)
      dsimp only at e0
      subst e0
      have hil : q < l.length := by rw [← HL.out]; exact hlt
      obtain ⟨hil', hee⟩ := map_at HEQ.out hil
      have x0 := hcs q hil 0 (by omega)
      have y0 := hcs' q hil' 0 (by omega)
      have hdx := HD1.out _ (List.getElem_mem hil)
      have hdy := HD2.out _ (List.getElem_mem hil')
      obtain ⟨x, hx⟩ : ∃ x, x = l[q] := ⟨_, rfl⟩
      obtain ⟨y, hy⟩ : ∃ x, x = l'[q] := ⟨_, rfl⟩
      rw [← hx] at hee hdx
      rw [← hy] at hee hdy
      obtain ⟨⟨B, n, d⟩, r⟩ := x
      obtain ⟨⟨B', n', d'⟩, r'⟩ := y
      simp only [← hx, rwC, List.getElem_cons_zero, Nat.add_zero, Nat.mul_one] at x0
      simp only [← hy, rwC, List.getElem_cons_zero, Nat.add_zero, Nat.mul_one] at y0
      unfold plRw at hee
      dsimp only at hee
      have hnn : n = n' := by have h1 := hdx.1.sl.len; have h2 := hdy.1.sl.len; have h3 := map_len hee; dsimp only at h1 h2; omega
      subst hnn
      have HN : Hid (n = r.length) := hdx.1.sl.len
      have hln : n < 2 ^ 44 := by have := hdx.1.bd; dsimp only at this; omega
      have HDX := Lib.hid hdx
      have HDY := Lib.hid hdy
      have HEE := Lib.hid hee
      have hi1 : (q : Int) < (m : Int) := by omega
      obtain ⟨wo, hwo⟩ : ∃ w3 : World, w3 = wr := ⟨_, rfl⟩
      rw [← hwo] at x0 y0 hE ⊢
      have HE := Lib.hid hE
      have X0 := laters x0
      have Y0 := laters y0
      have hEo := Ext.refl wo
      clear hcs hcs' hbl hbl' hx hy hdx hdy hee hwo hE x0 y0
      go_wp2
      go_quiet (fail)
      go_wp2
      go_loopw [6, 7, 8, 9] (fun i _ _ _ wr => ∃ p : Nat, p ≤ n ∧ i = .int .i64 p ∧ Ext wo wr) (fun i _ _ _ _ => n - (intOf i).toNat)
      case atStart => exact ⟨0, Nat.zero_le _, rfl, Ext.drewN (Ext.refl wo) _⟩
      case round =>
        obtain ⟨p, hp, rfl, hE2⟩ := hrel
        by_cases hlt2 : p < n
        · obtain ⟨b2, off2, e0, hbl, hcs⟩ := ((HDX.out.1.sl.ext HE.out).ext hE2).at_ hlt2 (by omega)
          dsimp only at e0
          subst e0
          obtain ⟨b3, off3, e0, hbl', hcs'⟩ := ((HDY.out.1.sl.ext HE.out).ext hE2).at_ hlt2 (by omega)
          dsimp only at e0
          subst e0
          have hil2 : p < r.length := by rw [← HN.out]; exact hlt2
          obtain ⟨hil3, he3⟩ := map_at HEE.out hil2
          have hdz := HDX.out.2.2 _ (List.getElem_mem hil2)
          have hdz' := HDY.out.2.2 _ (List.getElem_mem hil3)
          have x0 := hcs p hil2 0 (by omega)
          have x1 := hcs p hil2 1 (by omega)
          have x2 := hcs p hil2 2 (by omega)
          have x3 := hcs p hil2 3 (by omega)
          have y0 := hcs' p hil3 0 (by omega)
          have y1 := hcs' p hil3 1 (by omega)
          have y2 := hcs' p hil3 2 (by omega)
          have y3 := hcs' p hil3 3 (by omega)
          obtain ⟨x, hx⟩ : ∃ x, x = r[p] := ⟨_, rfl⟩
          obtain ⟨y, hy⟩ : ∃ x, x = r'[p] := ⟨_, rfl⟩
          rw [← hx] at he3 hdz
          rw [← hy] at he3 hdz'
          simp only [← hx, rlC, List.getElem_cons_zero, List.getElem_cons_succ, Nat.add_zero, ← Nat.add_assoc] at x0 x1 x2 x3
          simp only [← hy, rlC, List.getElem_cons_zero, List.getElem_cons_succ, Nat.add_zero, ← Nat.add_assoc] at y0 y1 y2 y3
          obtain ⟨e1, e2, e3, e4⟩ := plRl_of he3
          obtain ⟨zo, zm, zn, ⟨C, k, f⟩, sps⟩ := x
          obtain ⟨zo', zm', zn', ⟨C', k', f'⟩, sps'⟩ := y
          dsimp only at e1 e2 e3 e4 x0 x1 x2 x3 y0 y1 y2 y3
          subst e1 e2 e3 e4
          have hkk : k = k' := by have h1 := hdz.1.sl.len; have h2 := hdz'.1.sl.len; dsimp only at h1 h2; omega
          subst hkk
          have hlk : k < 2 ^ 44 := by have := hdz.1.bd; dsimp only at this; omega
          have HK : Hid (k = sps.length) := hdz.1.sl.len
          have HZ1 := Lib.hid hdz.1.sl
          have HZ2 := Lib.hid hdz'.1.sl
          have hi2 : (p : Int) < (n : Int) := by omega
          have v0 := fun o o' => later (((Ext.refl wr).alloc o).alloc o') x0
          have u0 := fun o => later ((Ext.refl wr).alloc o) x0
          have z0 := fun o o' => later (((Ext.refl wr).alloc o).alloc o') y0
          have s0 := fun o => later ((Ext.refl wr).alloc o) y0
          have v1 := fun o o' => later (((Ext.refl wr).alloc o).alloc o') x1
          have u1 := fun o => later ((Ext.refl wr).alloc o) x1
          have z1 := fun o o' => later (((Ext.refl wr).alloc o).alloc o') y1
          have s1 := fun o => later ((Ext.refl wr).alloc o) y1
          have v2 := fun o o' => later (((Ext.refl wr).alloc o).alloc o') x2
          have u2 := fun o => later ((Ext.refl wr).alloc o) x2
          have z2 := fun o o' => later (((Ext.refl wr).alloc o).alloc o') y2
          have s2 := fun o => later ((Ext.refl wr).alloc o) y2
          have v3 := fun o o' => later (((Ext.refl wr).alloc o).alloc o') x3
          have u3 := fun o => later ((Ext.refl wr).alloc o) x3
          have z3 := fun o o' => later (((Ext.refl wr).alloc o).alloc o') y3
          have s3 := fun o => later ((Ext.refl wr).alloc o) y3
          have hEr := Ext.refl wr
          clear hcs hcs' hbl hbl' hx hy hdz hdz' he3
          go_upto_region 11 with fail
          go_cut [7, 8] from 41 to 54 (fun v7 v8 wx => ∃ g7 g8 : Nat, v7 = .pointer (some ⟨g7, 0, none⟩) ∧ v8 = .pointer (some ⟨g8, 0, none⟩) ∧ Blk wx g7 120 #[.int .i64 zo, .int .i64 zm, .bool zn, .slice C k f] ∧ Blk wx g8 120 #[.int .i64 zo, .int .i64 zm, .bool zn, .slice C' k f'] ∧ Ext wr wx)
          case first =>
            go_region
            all_goals
              go_wp2_with fail
              go_meet
              first
                | exact ⟨_, _, rfl, rfl, (Blk.new wr _ _).alloc _, blk_newR wr _ _ _, (((Ext.refl wr).alloc _).alloc _).drew⟩
                | exact ⟨_, _, rfl, rfl, blk_newR wr _ _ _, (Blk.new wr _ _).alloc _, (((Ext.refl wr).alloc _).alloc _).drew⟩
          case rest =>
            obtain ⟨g7, g8, rfl, rfl, hb7, hb8, hE5⟩ := hcut
            clear x0 x1 x2 x3 y0 y1 y2 y3 u0 u1 u2 u3 v0 v1 v2 v3 s0 s1 s2 s3 z0 z1 z2 z3 hEr
            obtain ⟨w5, hw5⟩ : ∃ w3 : World, w3 = wc := ⟨_, rfl⟩
            rw [← hw5] at hb7 hb8 hE5 ⊢
            clear hw5
            have HE5 := Lib.hid (hE2.trans hE5)
            have k0 := laters (show w5.cell? ⟨g7, 0, none⟩ = some (.int .i64 zo) from hb7.cell 0)
            have k1 := laters (show w5.cell? ⟨g7, 1, none⟩ = some (.int .i64 zm) from hb7.cell 1)
            have k2 := laters (show w5.cell? ⟨g7, 2, none⟩ = some (.bool zn) from hb7.cell 2)
            have k3 := laters (show w5.cell? ⟨g7, 3, none⟩ = some (.slice C k f) from hb7.cell 3)
            have n0 := laters (show w5.cell? ⟨g8, 0, none⟩ = some (.int .i64 zo) from hb8.cell 0)
            have n1 := laters (show w5.cell? ⟨g8, 1, none⟩ = some (.int .i64 zm) from hb8.cell 1)
            have n2 := laters (show w5.cell? ⟨g8, 2, none⟩ = some (.bool zn) from hb8.cell 2)
            have n3 := laters (show w5.cell? ⟨g8, 3, none⟩ = some (.slice C' k f') from hb8.cell 3)
            have hE5r := Ext.refl w5
            clear hb7 hb8 hE5 hE2
            go_wp2
            go_loopw [9] (fun i wr => ∃ v : Nat, v ≤ k ∧ i = .int .i64 v ∧ Ext w5 wr) (fun i _ => k - (intOf i).toNat)
            case atStart => exact ⟨0, Nat.zero_le _, rfl, hE5r⟩
            case round =>
              obtain ⟨v, hv, rfl, hE6⟩ := hrel
              by_cases hlt3 : v < k
              · obtain ⟨b4, off4, e0, hbl, hcs⟩ := (((HZ1.out.ext HE.out).ext HE5.out).ext hE6).at_ hlt3 (by omega)
                first | (dsimp only at e0; subst e0) | subst e0
                obtain ⟨b5, off5, e0, hbl', hcs'⟩ := (((HZ2.out.ext HE.out).ext HE5.out).ext hE6).at_ hlt3 (by omega)
                first | (dsimp only at e0; subst e0) | subst e0
                have hil4 : v < sps.length := by rw [← HK.out]; exact hlt3
                have x0 := hcs v hil4 0 (by omega)
                have x1 := hcs v hil4 1 (by omega)
                have y0 := hcs' v hil4 0 (by omega)
                have y1 := hcs' v hil4 1 (by omega)
                obtain ⟨x, hx⟩ : ∃ x, x = sps[v] := ⟨_, rfl⟩
                obtain ⟨xa, xb⟩ := x
                simp only [← hx, spC, List.getElem_cons_zero, List.getElem_cons_succ, Nat.add_zero, ← Nat.add_assoc] at x0 x1 y0 y1
                have hi3 : (v : Int) < (k : Int) := by omega
                clear hcs hcs' hbl hbl' hx
                go_wp2
                go_quiet (fail)
                go_wp2
                go_roundw
                case rel => exact ⟨v + 1, by omega, by go_num, Ext.drewN hE6 _⟩
                case measure => simp [intOf]; omega
              · have hi3 : ¬ (v : Int) < (k : Int) := by omega
                have HE6 := Lib.hid hE6
                go_wp2
                go_roundw
                case rel => exact ⟨p + 1, by omega, by go_num, HE5.out.trans HE6.out⟩
                case measure => simp [intOf]; omega
        · have hi2 : ¬ (p : Int) < (n : Int) := by omega
          go_wp2
          go_roundw
          case rel => exact ⟨q + 1, by omega, by go_num, HE.out.trans hE2⟩
          case measure => simp [intOf]; omega
    · have hi1 : ¬ (q : Int) < (m : Int) := by omega
      go_wp2
      go_ret
      exact ⟨rfl, hE⟩
end
end Go.Proofs.YtdgppdiickmofaaGreatDoor

/- The references of the whole fallback: equal lists of rules. -/
namespace Go.Proofs.YtdgppdiickmofaaGreatDoor
open Go.RowKit
set_option maxRecDepth 100000
attribute [local go_sem] ext_refl_t ext_alloc_t ext_drew_t ext_drewN_t ext_alloc2_t ext_alloc3_t ext_alloc4_t ext_alloc5_t ext_alloc6_t ext_alloc7_t ext_alloc8_t ext_alloc1d_t ext_alloc2d_t ext_alloc3d_t ext_alloc4d_t
attribute [local go_sem] yielded_undef
theorem plRx_of {x y : RxH} (h : plRx x = plRx y) : x.cls = y.cls ∧ x.l.map plRw = y.l.map plRw := by
  unfold plRx at h
  simpa using h
section
variable {w : World} {S : Nat → Prop}
set_option maxHeartbeats 6400000 in
theorem sameRules_any {h h' : SlH} {l l' : List RxH} (hw : DRs w S h l) (hw' : DRs w S h' l') (he : l.map plRx = l'.map plRx) :
    Calls Tryz.prog 42 #[.slice h.A h.m h.c, .slice h'.A h'.m h'.c] w fun e w' => e = .returned (.bool true) ∧ Ext w w' := by
  obtain ⟨A, m, c⟩ := h
  obtain ⟨A', m', c'⟩ := h'
  dsimp only
  have hmm : m = m' := by have h1 := hw.1.sl.len; have h2 := hw'.1.sl.len; have h3 := map_len he; dsimp only at h1 h2; omega
  subst hmm
  have HL : Hid (m = l.length) := hw.1.sl.len
  have hle : m < 2 ^ 44 := by have := hw.1.bd; dsimp only at this; omega
  have HW1 := Lib.hid hw
  have HW2 := Lib.hid hw'
  have HEQ := Lib.hid he
  clear hw hw' he
  go_enter Tryz.func42, Tryz.ntmps42
  go_wp2
  go_loopw [5] (fun i wr => ∃ q : Nat, q ≤ m ∧ i = .int .i64 q ∧ Ext w wr) (fun i _ => m - (intOf i).toNat)
  case atStart => exact ⟨0, Nat.zero_le _, rfl, Ext.refl _⟩
  case round =>
    obtain ⟨q, hq, rfl, hE⟩ := hrel
    by_cases hlt : q < m
    · obtain ⟨b, off, e0, hbl, hcs⟩ := (HW1.out.1.sl.ext hE).at_ hlt (by omega)
      dsimp only at e0
      subst e0
      obtain ⟨b', off', e0, hbl', hcs'⟩ := (HW2.out.1.sl.ext hE).at_ hlt (by omega)
      dsimp only at e0
      subst e0
      have hil : q < l.length := by rw [← HL.out]; exact hlt
      obtain ⟨hil', hee⟩ := map_at HEQ.out hil
      have x0 := hcs q hil 0 (by omega)
      have x1 := hcs q hil 1 (by omega)
      have y0 := hcs' q hil' 0 (by omega)
      have y1 := hcs' q hil' 1 (by omega)
      have hdx := HW1.out.2.2 _ (List.getElem_mem hil)
      have hdy := HW2.out.2.2 _ (List.getElem_mem hil')
      obtain ⟨x, hx⟩ : ∃ x, x = l[q] := ⟨_, rfl⟩
      obtain ⟨y, hy⟩ : ∃ x, x = l'[q] := ⟨_, rfl⟩
      rw [← hx] at hee hdx
      rw [← hy] at hee hdy
      obtain ⟨e1, e2⟩ := plRx_of hee
      obtain ⟨cx, ⟨B, n, d⟩, r⟩ := x
      obtain ⟨cy, ⟨B', n', d'⟩, r'⟩ := y
      simp only [← hx, rxC, List.getElem_cons_zero, List.getElem_cons_succ, Nat.add_zero, ← Nat.add_assoc] at x0 x1
      simp only [← hy, rxC, List.getElem_cons_zero, List.getElem_cons_succ, Nat.add_zero, ← Nat.add_assoc] at y0 y1
      dsimp only at e1 e2
      subst e1
      obtain ⟨s, hs⟩ : ∃ s, s = str cx := ⟨_, rfl⟩
      rw [← hs] at x0 y0
      have hbq : (s.toList == s.toList) = true := by simp
      have hnq : (s.toList != s.toList) = false := by simp
      have HSC : Hid (∀ W, Ext wr W → Calls Tryz.prog 68 #[.slice B n d, .slice B' n' d'] W fun e w' => e = .returned (.bool true) ∧ Ext W w') := fun W hEW =>
        sameCond_any (S := S) (h := ⟨B, n, d⟩) (h' := ⟨B', n', d'⟩) (HW.ext hdx.1 (hE.trans hEW)) (HW.ext hdy.1 (hE.trans hEW)) (fun z hz => (hdx.2.2 z hz).ext (hE.trans hEW)) (fun z hz => (hdy.2.2 z hz).ext (hE.trans hEW)) e2
      have hi1 : (q : Int) < (m : Int) := by omega
      have X0 := latersU x0
      have X1 := latersU x1
      have Y0 := latersU y0
      have Y1 := latersU y1
      have HE := Lib.hid hE
      have hEr := Ext.refl wr
      clear hcs hcs' hbl hbl' hx hy hdx hdy hee e2 hs
      go_upto_region 6 with fail
      refine wp_region_ext_lit (by kernel_rfl) (by kernel_rfl) ?_
      try dsimp only [List.append]
      repeat (go_big_quiet_step (first | (go_at_call 68; with_reducible exact Calls.quiet_ext (HSC.out _ (ExtOf.ext _)))))
      refine wpQuiet_nil ?_
      rintro w5 ⟨⟨_, h5⟩, rfl⟩
      try dsimp only
      go_wp2
      go_roundw
      case rel => exact ⟨q + 1, by omega, by go_num, HE.out.trans h5⟩
      case measure => simp [intOf]; omega
    · have hi1 : ¬ (q : Int) < (m : Int) := by omega
      go_wp2
      go_ret
      exact ⟨rfl, hE⟩
end
end Go.Proofs.YtdgppdiickmofaaGreatDoor

/- The references of the whole fallback: equal locales. -/
namespace Go.Proofs.YtdgppdiickmofaaGreatDoor
open Go.RowKit
set_option maxRecDepth 100000
attribute [local go_sem] ext_refl_t ext_alloc_t ext_drew_t ext_drewN_t ext_alloc2_t ext_alloc3_t ext_alloc4_t ext_alloc5_t ext_alloc6_t ext_alloc7_t ext_alloc8_t ext_alloc1d_t ext_alloc2d_t ext_alloc3d_t ext_alloc4d_t
attribute [local go_sem] yielded_undef neq_lp gneq_lp neq_up gneq_up neq_dp gneq_dp neq_sy gneq_sy
section
variable {w : World}
set_option maxHeartbeats 25600000 in
theorem sameLocale_any {x y : LxH} (hx : DLx w x) (hy : DLx w y) (he : plx x = plx y) :
    Calls Tryz.prog 9 #[lcV x.lc, lcV y.lc] w fun e w' => e = .returned (.bool true) ∧ Ext w w' := by
  obtain ⟨⟨tag, par, dir, xcard, xord, dec, grp, min, pct, p1, p2, xlst, xunt, xdat, xmon, xday⟩, xlcard, xlord, llst, lunt, ldat, lmon, lday⟩ := x
  obtain ⟨⟨tag2, par2, dir2, ycard, yord, dec2, grp2, min2, pct2, p12, p22, ylst, yunt, ydat, ymon, yday⟩, ylcard, ylord, llst2, lunt2, ldat2, lmon2, lday2⟩ := y
  unfold plx symL at he
  dsimp only at he
  simp only [LpL.mk.injEq, Prod.mk.injEq] at he
  obtain ⟨e1, e2, e3, e4, e5, ⟨e6, e7, e8, e9, e10, e11⟩, e12, e13, e14, e15, e16⟩ := he
  subst e1 e2 e3 e6 e7 e8 e9 e10 e11 e12 e13 e14 e15 e16
  have HX := Lib.hid hx
  have HY := Lib.hid hy
  have HSR1 : Hid (∀ W, Ext w W → Calls Tryz.prog 42 #[.slice xcard.A xcard.m xcard.c, .slice ycard.A ycard.m ycard.c] W fun e w' => e = .returned (.bool true) ∧ Ext W w') := fun W hE => sameRules_any (S := fun _ => False) (hx.card.ext hE) (hy.card.ext hE) e4
  have HSR2 : Hid (∀ W, Ext w W → Calls Tryz.prog 42 #[.slice xord.A xord.m xord.c, .slice yord.A yord.m yord.c] W fun e w' => e = .returned (.bool true) ∧ Ext W w') := fun W hE => sameRules_any (S := fun _ => False) (hx.ord.ext hE) (hy.ord.ext hE) e5
  have HST1 : Hid (∀ W, Ext w W → Calls Tryz.prog 43 #[.slice xmon.A xmon.m xmon.c, .slice ymon.A ymon.m ymon.c] W fun e w' => e = .returned (.bool true) ∧ Ext W w') := fun W hE => strings22_any _ _ (hx.mon.sl.ext hE) (hy.mon.sl.ext hE)
  have HST2 : Hid (∀ W, Ext w W → Calls Tryz.prog 43 #[.slice xday.A xday.m xday.c, .slice yday.A yday.m yday.c] W fun e w' => e = .returned (.bool true) ∧ Ext W w') := fun W hE => strings22_any _ _ (hx.day.sl.ext hE) (hy.day.sl.ext hE)
  obtain ⟨Al, ml, cl⟩ := xlst
  obtain ⟨Au, mu, cu⟩ := xunt
  obtain ⟨Ad, md, cd⟩ := xdat
  obtain ⟨Bl, nl, dl⟩ := ylst
  obtain ⟨Bu, nu, du⟩ := yunt
  obtain ⟨Bd, nd, dd⟩ := ydat
  have hl1 : ml = nl := hx.lst.sl.len.trans hy.lst.sl.len.symm
  have hu1 : mu = nu := hx.unt.sl.len.trans hy.unt.sl.len.symm
  have hd1 : md = nd := hx.dat.sl.len.trans hy.dat.sl.len.symm
  have HSL1 : Hid (SlC lpC 5 w Al ml llst) := hx.lst.sl
  have HSL2 : Hid (SlC lpC 5 w Bl nl llst) := hy.lst.sl
  have HSU1 : Hid (SlC upC 3 w Au mu lunt) := hx.unt.sl
  have HSU2 : Hid (SlC upC 3 w Bu nu lunt) := hy.unt.sl
  have HSD1 : Hid (SlC dpC 2 w Ad md ldat) := hx.dat.sl
  have HSD2 : Hid (SlC dpC 2 w Bd nd ldat) := hy.dat.sl
  subst hl1 hu1 hd1
  have HLL : Hid (ml = llst.length) := HSL1.out.len
  have HLU : Hid (mu = lunt.length) := HSU1.out.len
  have HLD : Hid (md = ldat.length) := HSD1.out.len
  have bl : ml < 2 ^ 44 := by have := hx.lst.bd; dsimp only at this; omega
  have bu : mu < 2 ^ 44 := by have := hx.unt.bd; dsimp only at this; omega
  have bd : md < 2 ^ 44 := by have := hx.dat.bd; dsimp only at this; omega
  clear hx hy e4 e5
  unfold lcV
  dsimp only
  obtain ⟨W0, hW0⟩ : ∃ W0, W0 = (w.alloc (Obj.cells #[.string (str tag), .string (str par), .string (str dir), .slice xcard.A xcard.m xcard.c, .slice xord.A xord.m xord.c, .string (str dec), .string (str grp), .string (str min), .string (str pct), .int .i64 p1, .int .i64 p2, .slice Al ml cl, .slice Au mu cu, .slice Ad md cd, .slice xmon.A xmon.m xmon.c, .slice xday.A xday.m xday.c] 38)).alloc (Obj.cells #[.string (str tag), .string (str par), .string (str dir), .slice ycard.A ycard.m ycard.c, .slice yord.A yord.m yord.c, .string (str dec), .string (str grp), .string (str min), .string (str pct), .int .i64 p1, .int .i64 p2, .slice Bl ml dl, .slice Bu mu du, .slice Bd md dd, .slice ymon.A ymon.m ymon.c, .slice yday.A yday.m yday.c] 38) := ⟨_, rfl⟩
  have hb2 : Blk W0 w.heap.size 38 #[.string (str tag), .string (str par), .string (str dir), .slice xcard.A xcard.m xcard.c, .slice xord.A xord.m xord.c, .string (str dec), .string (str grp), .string (str min), .string (str pct), .int .i64 p1, .int .i64 p2, .slice Al ml cl, .slice Au mu cu, .slice Ad md cd, .slice xmon.A xmon.m xmon.c, .slice xday.A xday.m xday.c] := by rw [hW0]; exact (Blk.new w _ _).alloc _
  have hb3 : Blk W0 (w.heap.size + 1) 38 #[.string (str tag), .string (str par), .string (str dir), .slice ycard.A ycard.m ycard.c, .slice yord.A yord.m yord.c, .string (str dec), .string (str grp), .string (str min), .string (str pct), .int .i64 p1, .int .i64 p2, .slice Bl ml dl, .slice Bu mu du, .slice Bd md dd, .slice ymon.A ymon.m ymon.c, .slice yday.A yday.m yday.c] := by rw [hW0]; exact blk_newR w _ _ _
  have hE0 : Ext w W0 := by rw [hW0]; exact ((Ext.refl w).alloc _).alloc _
  obtain ⟨g3, hg3⟩ : ∃ g, g = w.heap.size + 1 := ⟨_, rfl⟩
  obtain ⟨g2, hg2⟩ : ∃ g, g = w.heap.size := ⟨_, rfl⟩
  rw [← hg3] at hb3
  rw [← hg2] at hb2
  have HB2 := Lib.hid hb2
  have HB3 := Lib.hid hb3
  have HE0 := Lib.hid hE0
  have HW0 := Lib.hid hW0
  have HG2 := Lib.hid hg2
  have HG3 := Lib.hid hg3
  clear hb2 hb3 hE0 hW0 hg2 hg3
  go_enter Tryz.func9, Tryz.ntmps9
  go_upto_region 1 with fail
  rw [← HW0.out, ← HG3.out, ← HG2.out]
  have k0 := laters (show W0.cell? ⟨g2, 0, none⟩ = some (.string (str tag)) from HB2.out.cell 0)
  have n0 := laters (show W0.cell? ⟨g3, 0, none⟩ = some (.string (str tag)) from HB3.out.cell 0)
  have k1 := laters (show W0.cell? ⟨g2, 1, none⟩ = some (.string (str par)) from HB2.out.cell 1)
  have n1 := laters (show W0.cell? ⟨g3, 1, none⟩ = some (.string (str par)) from HB3.out.cell 1)
  have k2 := laters (show W0.cell? ⟨g2, 2, none⟩ = some (.string (str dir)) from HB2.out.cell 2)
  have n2 := laters (show W0.cell? ⟨g3, 2, none⟩ = some (.string (str dir)) from HB3.out.cell 2)
  have k3 := laters (show W0.cell? ⟨g2, 3, none⟩ = some (.slice xcard.A xcard.m xcard.c) from HB2.out.cell 3)
  have n3 := laters (show W0.cell? ⟨g3, 3, none⟩ = some (.slice ycard.A ycard.m ycard.c) from HB3.out.cell 3)
  have k4 := laters (show W0.cell? ⟨g2, 4, none⟩ = some (.slice xord.A xord.m xord.c) from HB2.out.cell 4)
  have n4 := laters (show W0.cell? ⟨g3, 4, none⟩ = some (.slice yord.A yord.m yord.c) from HB3.out.cell 4)
  have k5 := laters (show W0.cell? ⟨g2, 5, none⟩ = some (.string (str dec)) from HB2.out.cell 5)
  have n5 := laters (show W0.cell? ⟨g3, 5, none⟩ = some (.string (str dec)) from HB3.out.cell 5)
  have k6 := laters (show W0.cell? ⟨g2, 6, none⟩ = some (.string (str grp)) from HB2.out.cell 6)
  have n6 := laters (show W0.cell? ⟨g3, 6, none⟩ = some (.string (str grp)) from HB3.out.cell 6)
  have k7 := laters (show W0.cell? ⟨g2, 7, none⟩ = some (.string (str min)) from HB2.out.cell 7)
  have n7 := laters (show W0.cell? ⟨g3, 7, none⟩ = some (.string (str min)) from HB3.out.cell 7)
  have k8 := laters (show W0.cell? ⟨g2, 8, none⟩ = some (.string (str pct)) from HB2.out.cell 8)
  have n8 := laters (show W0.cell? ⟨g3, 8, none⟩ = some (.string (str pct)) from HB3.out.cell 8)
  have k9 := laters (show W0.cell? ⟨g2, 9, none⟩ = some (.int .i64 p1) from HB2.out.cell 9)
  have n9 := laters (show W0.cell? ⟨g3, 9, none⟩ = some (.int .i64 p1) from HB3.out.cell 9)
  have k10 := laters (show W0.cell? ⟨g2, 10, none⟩ = some (.int .i64 p2) from HB2.out.cell 10)
  have n10 := laters (show W0.cell? ⟨g3, 10, none⟩ = some (.int .i64 p2) from HB3.out.cell 10)
  have k11 := laters (show W0.cell? ⟨g2, 11, none⟩ = some (.slice Al ml cl) from HB2.out.cell 11)
  have n11 := laters (show W0.cell? ⟨g3, 11, none⟩ = some (.slice Bl ml dl) from HB3.out.cell 11)
  have k12 := laters (show W0.cell? ⟨g2, 12, none⟩ = some (.slice Au mu cu) from HB2.out.cell 12)
  have n12 := laters (show W0.cell? ⟨g3, 12, none⟩ = some (.slice Bu mu du) from HB3.out.cell 12)
  have k13 := laters (show W0.cell? ⟨g2, 13, none⟩ = some (.slice Ad md cd) from HB2.out.cell 13)
  have n13 := laters (show W0.cell? ⟨g3, 13, none⟩ = some (.slice Bd md dd) from HB3.out.cell 13)
  have k14 := laters (show W0.cell? ⟨g2, 14, none⟩ = some (.slice xmon.A xmon.m xmon.c) from HB2.out.cell 14)
  have n14 := laters (show W0.cell? ⟨g3, 14, none⟩ = some (.slice ymon.A ymon.m ymon.c) from HB3.out.cell 14)
  have k15 := laters (show W0.cell? ⟨g2, 15, none⟩ = some (.slice xday.A xday.m xday.c) from HB2.out.cell 15)
  have n15 := laters (show W0.cell? ⟨g3, 15, none⟩ = some (.slice yday.A yday.m yday.c) from HB3.out.cell 15)
  obtain ⟨s0, hs0⟩ : ∃ s, s = str tag := ⟨_, rfl⟩
  obtain ⟨s1, hs1⟩ : ∃ s, s = str par := ⟨_, rfl⟩
  obtain ⟨s2, hs2⟩ : ∃ s, s = str dir := ⟨_, rfl⟩
  rw [← hs0] at k0 n0
  rw [← hs1] at k1 n1
  rw [← hs2] at k2 n2
  have q0 : (s0.toList == s0.toList) = true := by simp
  have q1 : (s1.toList == s1.toList) = true := by simp
  have q2 : (s2.toList == s2.toList) = true := by simp
  have p0 : (s0.toList != s0.toList) = false := by simp
  have p1' : (s1.toList != s1.toList) = false := by simp
  have p2' : (s2.toList != s2.toList) = false := by simp
  have hEr := Ext.refl W0
  clear hs0 hs1 hs2
  go_wp2_with (first
    | (go_at_call 42; refine Hid.out ?_))
  refine Hid.mk_ ((HSR1.out _ HE0.out).mono ?_)
  rintro e w1 ⟨rfl, hE1⟩
  go_wp2_with (first
    | (go_at_call 42; refine Hid.out ?_))
  refine Hid.mk_ ((HSR2.out _ (HE0.out.trans hE1)).mono ?_)
  rintro e w2 ⟨rfl, hE2⟩
  have hE02 := hE1.trans hE2
  go_wp2_with (first
    | (go_at_call 43; refine Hid.out ?_))
  refine Hid.mk_ ((HST1.out _ (HE0.out.trans hE02)).mono ?_)
  rintro e w3 ⟨rfl, hE3⟩
  have hE03 := hE02.trans hE3
  go_wp2_with (first
    | (go_at_call 43; refine Hid.out ?_))
  refine Hid.mk_ ((HST2.out _ (HE0.out.trans hE03)).mono ?_)
  rintro e w4 ⟨rfl, hE4⟩
  have HE4 := Lib.hid (hE03.trans hE4)
  have hE04 := HE4.out
  clear hE1 hE2 hE3 hE4 hE02 hE03 k0 n0 k1 n1 k2 n2 k3 n3 k4 n4 k5 n5 k6 n6 k7 n7 k8 n8 k9 n9 k10 n10 k14 n14 k15 n15 q0 q1 q2 p0 p1' p2'
  go_wp2
  go_loopw [5] (fun i wr => ∃ q : Nat, q ≤ ml ∧ i = .int .i64 q ∧ Ext W0 wr) (fun i _ => ml - (intOf i).toNat)
  case atStart => exact ⟨0, Nat.zero_le _, rfl, hE04⟩
  case round =>
    obtain ⟨q, hq, rfl, hE5⟩ := hrel
    by_cases hlt : q < ml
    · obtain ⟨b, off, e0, hbl, hcs⟩ := ((HSL1.out.ext HE0.out).ext hE5).at_ hlt (by omega)
      subst e0
      obtain ⟨b', off', e0, hbl', hcs'⟩ := ((HSL2.out.ext HE0.out).ext hE5).at_ hlt (by omega)
      subst e0
      have hil : q < llst.length := by rw [← HLL.out]; exact hlt
      have x0 := hcs q hil 0 (by omega)
      have y0 := hcs' q hil 0 (by omega)
      have x1 := hcs q hil 1 (by omega)
      have y1 := hcs' q hil 1 (by omega)
      have x2 := hcs q hil 2 (by omega)
      have y2 := hcs' q hil 2 (by omega)
      have x3 := hcs q hil 3 (by omega)
      have y3 := hcs' q hil 3 (by omega)
      have x4 := hcs q hil 4 (by omega)
      have y4 := hcs' q hil 4 (by omega)
      obtain ⟨z, hz⟩ : ∃ z, z = llst[q] := ⟨_, rfl⟩
      simp only [← hz, lpC, List.getElem_cons_zero, List.getElem_cons_succ, Nat.add_zero, ← Nat.add_assoc] at x0 y0 x1 y1 x2 y2 x3 y3 x4 y4
      have hi1 : (q : Int) < (ml : Int) := by omega
      clear hcs hcs' hbl hbl' hz
      go_wp2
      go_quiet (fail)
      go_wp2
      go_roundw
      case rel => exact ⟨q + 1, by omega, by go_num, Ext.drewN hE5 _⟩
      case measure => simp [intOf]; omega
    · have hi1 : ¬ (q : Int) < (ml : Int) := by omega
      have HE105 := Lib.hid hE5
      go_wp2
      obtain ⟨w5, hw5⟩ : ∃ w3 : World, w3 = wr := ⟨_, rfl⟩
      rw [← hw5] at HE105 ⊢
      clear hw5 hE5
      go_loopw [6] (fun i wr => ∃ q : Nat, q ≤ mu ∧ i = .int .i64 q ∧ Ext W0 wr) (fun i _ => mu - (intOf i).toNat)
      case atStart => exact ⟨0, Nat.zero_le _, rfl, HE105.out⟩
      case round =>
        obtain ⟨q, hq, rfl, hE6⟩ := hrel
        by_cases hlt : q < mu
        · obtain ⟨b, off, e0, hbl, hcs⟩ := ((HSU1.out.ext HE0.out).ext hE6).at_ hlt (by omega)
          subst e0
          obtain ⟨b', off', e0, hbl', hcs'⟩ := ((HSU2.out.ext HE0.out).ext hE6).at_ hlt (by omega)
          subst e0
          have hil : q < lunt.length := by rw [← HLU.out]; exact hlt
          have x0 := hcs q hil 0 (by omega)
          have y0 := hcs' q hil 0 (by omega)
          have x1 := hcs q hil 1 (by omega)
          have y1 := hcs' q hil 1 (by omega)
          have x2 := hcs q hil 2 (by omega)
          have y2 := hcs' q hil 2 (by omega)
          obtain ⟨z, hz⟩ : ∃ z, z = lunt[q] := ⟨_, rfl⟩
          simp only [← hz, upC, List.getElem_cons_zero, List.getElem_cons_succ, Nat.add_zero, ← Nat.add_assoc] at x0 y0 x1 y1 x2 y2
          have hi1 : (q : Int) < (mu : Int) := by omega
          clear hcs hcs' hbl hbl' hz
          go_wp2
          go_quiet (fail)
          go_wp2
          go_roundw
          case rel => exact ⟨q + 1, by omega, by go_num, Ext.drewN hE6 _⟩
          case measure => simp [intOf]; omega
        · have hi1 : ¬ (q : Int) < (mu : Int) := by omega
          have HE106 := Lib.hid hE6
          go_wp2
          obtain ⟨w6, hw6⟩ : ∃ w3 : World, w3 = wr := ⟨_, rfl⟩
          rw [← hw6] at HE106 ⊢
          clear hw6 hE6
          go_loopw [7] (fun i wr => ∃ q : Nat, q ≤ md ∧ i = .int .i64 q ∧ Ext W0 wr) (fun i _ => md - (intOf i).toNat)
          case atStart => exact ⟨0, Nat.zero_le _, rfl, HE106.out⟩
          case round =>
            obtain ⟨q, hq, rfl, hE7⟩ := hrel
            by_cases hlt : q < md
            · obtain ⟨b, off, e0, hbl, hcs⟩ := ((HSD1.out.ext HE0.out).ext hE7).at_ hlt (by omega)
              subst e0
              obtain ⟨b', off', e0, hbl', hcs'⟩ := ((HSD2.out.ext HE0.out).ext hE7).at_ hlt (by omega)
              subst e0
              have hil : q < ldat.length := by rw [← HLD.out]; exact hlt
              have x0 := hcs q hil 0 (by omega)
              have y0 := hcs' q hil 0 (by omega)
              have x1 := hcs q hil 1 (by omega)
              have y1 := hcs' q hil 1 (by omega)
              obtain ⟨z, hz⟩ : ∃ z, z = ldat[q] := ⟨_, rfl⟩
              simp only [← hz, dpC, List.getElem_cons_zero, List.getElem_cons_succ, Nat.add_zero, ← Nat.add_assoc] at x0 y0 x1 y1
              have hi1 : (q : Int) < (md : Int) := by omega
              clear hcs hcs' hbl hbl' hz
              go_wp2
              go_quiet (fail)
              go_wp2
              go_roundw
              case rel => exact ⟨q + 1, by omega, by go_num, Ext.drewN hE7 _⟩
              case measure => simp [intOf]; omega
            · have hi1 : ¬ (q : Int) < (md : Int) := by omega
              have HE107 := Lib.hid hE7
              go_wp2
              go_ret
              exact ⟨rfl, HE0.out.trans HE107.out⟩
end
end Go.Proofs.YtdgppdiickmofaaGreatDoor
