/- The program's effective locales: keys, comparisons, sorts of patterns. -/
import Derived.Test.YtdgppdiickmofaaGreatDoorPQ28
import Derived.Test.YtdgppdiickmofaaGreatDoorPQ29
import Derived.Shelf.SlSortCmp.NoneTotal
namespace Go.Proofs.YtdgppdiickmofaaGreatDoor
open Go.RowKit Go.Lib Go.Sort Go.Shelf
set_option maxRecDepth 100000
attribute [local go_sem] ext_refl_t ext_alloc_t ext_drew_t ext_drewN_t ext_alloc2_t ext_alloc3_t ext_alloc4_t ext_alloc5_t ext_alloc6_t ext_alloc7_t ext_alloc8_t ext_alloc1d_t ext_alloc2d_t ext_alloc3d_t ext_alloc4d_t
section
variable {w : World}
theorem key6_any (x : LpP) : Calls Tryz.prog 29 #[.agg #[.string (str x.st), .string (str x.tw), .string (str x.sa), .string (str x.mi), .string (str x.en)]] w fun e w' => e = .returned (.string (str x.st)) ∧ w' = w.alloc (.cells #[.string (str x.st), .string (str x.tw), .string (str x.sa), .string (str x.mi), .string (str x.en)] 71) := by
  go_enter Tryz.func29, Tryz.ntmps29
  go_wp2
  go_ret
  exact ⟨rfl, rfl⟩
theorem key11_any (x : DpP) : Calls Tryz.prog 40 #[.agg #[.string (str x.sk), .string (str x.pa)]] w fun e w' => e = .returned (.string (str x.sk)) ∧ w' = w.alloc (.cells #[.string (str x.sk), .string (str x.pa)] 89) := by
  go_enter Tryz.func40, Tryz.ntmps40
  go_wp2
  go_ret
  exact ⟨rfl, rfl⟩
theorem blk_new1 (w : World) (o : Obj) (t : TypeId) (cs : Array Value) : Blk ((w.alloc o).alloc (.cells cs t)) (w.heap.size + 1) t cs := by
  have h := Blk.new (w.alloc o) t cs
  simpa using h
theorem key8_any (x : UpP) : Calls Tryz.prog 34 #[.agg #[.string (str x.un), .string (str x.cl), .string (str x.pa)]] w fun e w' => e = .returned (prV (upK x)) ∧ w' = (w.alloc (.cells #[.string (str x.un), .string (str x.cl), .string (str x.pa)] 79)).alloc (.cells #[.string (str x.un), .string (str x.cl)] 80) := by
  go_enter Tryz.func34, Tryz.ntmps34
  go_wp2
  refine bodyPost_ret (results_cell_row rfl _ _ (w.heap.size + 1) 80 _ (0, 0) _ rfl (blk_new1 w _ _ _) Tryz.underlying80 rfl (by kernel_rfl)) rfl ?_
  exact ⟨rfl, rfl⟩
theorem key6X (x : LpP) : Calls Tryz.prog 29 #[.agg #[.string (str x.st), .string (str x.tw), .string (str x.sa), .string (str x.mi), .string (str x.en)]] w fun e w' => e = .returned (.string (str x.st)) ∧ Ext w w' :=
  (key6_any x).mono fun _ _ ⟨h1, h2⟩ => ⟨h1, h2 ▸ (Ext.refl _).alloc _⟩
theorem key11X (x : DpP) : Calls Tryz.prog 40 #[.agg #[.string (str x.sk), .string (str x.pa)]] w fun e w' => e = .returned (.string (str x.sk)) ∧ Ext w w' :=
  (key11_any x).mono fun _ _ ⟨h1, h2⟩ => ⟨h1, h2 ▸ (Ext.refl _).alloc _⟩
theorem key8X (x : UpP) : Calls Tryz.prog 34 #[.agg #[.string (str x.un), .string (str x.cl), .string (str x.pa)]] w fun e w' => e = .returned (prV (upK x)) ∧ Ext w w' :=
  (key8_any x).mono fun _ _ ⟨h1, h2⟩ => ⟨h1, h2 ▸ ((Ext.refl _).alloc _).alloc _⟩
theorem drew_grow (W : World) (os : Array Obj) : (grow W os).drew = grow W.drew os := rfl
theorem growsIs (W : World) : ∃ q os', W = grow (W.drewN q) os' := ⟨0, #[], by rw [grow_empty]; rfl⟩
theorem growsA {W V : World} {o : Obj} (h : ∃ q os', V = grow (W.drewN q) os') : ∃ q os', V.alloc o = grow (W.drewN q) os' := by
  obtain ⟨q, os, rfl⟩ := h
  exact ⟨q, os ++ #[o], by rw [alloc_eq_grow, grow_grow]⟩
theorem growsD {W V : World} (h : ∃ q os', V = grow (W.drewN q) os') : ∃ q os', V.drew = grow (W.drewN q) os' := by
  obtain ⟨q, os, rfl⟩ := h
  exact ⟨q + 1, os, rfl⟩
theorem boxc (W : World) (o1 o2 : Obj) (x y : Value) (t : TypeId) :
    ((((W.alloc o1).alloc o2).alloc (.cells #[x, y] t)).drew.cell? ⟨W.heap.size + 1 + 1, 0, none⟩ = some x) ∧ ((((W.alloc o1).alloc o2).alloc (.cells #[x, y] t)).drew.cell? ⟨W.heap.size + 1 + 1, 1, none⟩ = some y) := by
  have h1 := Blk.new ((W.alloc o1).alloc o2) t #[x, y]
  have h2 := h1.below (Ext.refl _).drew h1.lt
  have h3 : ((W.alloc o1).alloc o2).heap.size = W.heap.size + 1 + 1 := by simp
  rw [h3] at h2
  exact ⟨h2.cell 0, h2.cell 1⟩
theorem growsN {W V : World} {n : Nat} {os : Array Obj} (h : ∃ q os', V = grow (W.drewN q) os') : ∃ q os', grow (V.drewN n) os = grow (W.drewN q) os' := by
  obtain ⟨q, os1, rfl⟩ := h
  refine ⟨q + n, os1 ++ os, ?_⟩
  rw [← grow_grow, ← World.drewN_drewN]
  rfl
set_option maxHeartbeats 1600000 in
theorem cmp9_any (p q : PrP) : Calls Tryz.prog 35 #[prV p, prV q] w fun e w' => e = .returned (.int .i64 (cmpQ p q)) ∧ ∃ n os', w' = grow (w.drewN n) os' := by
  obtain ⟨xa, xb⟩ := p
  obtain ⟨ya, yb⟩ := q
  obtain ⟨r, hr⟩ : ∃ r, r = cmpQ (xa, xb) (ya, yb) := ⟨_, rfl⟩
  have HR : Hid (r = if cmpL xa ya = 0 then cmpL xb yb else cmpL xa ya) := Lib.hid hr
  rw [← hr]
  clear hr
  unfold prV
  dsimp only
  go_enter Tryz.func35, Tryz.ntmps35
  go_wp2_with fail
  go_region_held3 (fun w' => w'.cell? ⟨w.heap.size, 0, none⟩ = some (.string (str xa)) ∧ w'.cell? ⟨w.heap.size, 1, none⟩ = some (.string (str xb)) ∧ w'.cell? ⟨w.heap.size + 1, 0, none⟩ = some (.string (str ya)) ∧ w'.cell? ⟨w.heap.size + 1, 1, none⟩ = some (.string (str yb)))
    (first | go_keep | assumption)
    (first
      | (go_at_call 30; refine (compareS_any _ _).mono ?_; rintro e w9 ⟨rfl, rfl⟩)
      | (go_at_call 36; refine (or_any _ (cmpL xa ya) (cmpL xb yb) r HR (boxc w _ _ _ _ _).1 (boxc w _ _ _ _ _).2).mono ?_; rintro e w9 ⟨rfl, rfl⟩)
      | fail)
  all_goals
    go_wp2
    go_ret
    exact ⟨rfl, by repeat first | exact growsIs _ | refine growsA ?_ | refine growsN ?_ | refine growsD ?_⟩
theorem ext_of_grows {W V : World} (h : ∃ q os', V = grow (W.drewN q) os') : Ext W V := by
  obtain ⟨q, os, rfl⟩ := h
  exact ⟨rfl, rfl, rfl, by simp [size_grow], fun k hk => heap_grow_old _ _ (by simpa using hk)⟩
set_option maxHeartbeats 3200000 in
theorem cmpLP_any {gc gk : Nat} (hc : w.cell? ⟨gc, 0, none⟩ = some (.func (.func 30) #[] #[])) (hk : w.cell? ⟨gk, 0, none⟩ = some (.func (.func 29) #[] #[])) (x y : LpP) :
    Calls Tryz.prog 58 #[.agg #[.string (str x.st), .string (str x.tw), .string (str x.sa), .string (str x.mi), .string (str x.en)], .agg #[.string (str y.st), .string (str y.tw), .string (str y.sa), .string (str y.mi), .string (str y.en)], .pointer (some ⟨gc, 0, none⟩), .pointer (some ⟨gk, 0, none⟩)] w fun e w' => e = .returned (.int .i64 (cmpL x.st y.st)) ∧ ∃ q os', w' = grow (w.drewN q) os' := by
  have hlc := World.block_lt_of_cell? w _ hc
  have hlk := World.block_lt_of_cell? w _ hk
  dsimp only at hlc hlk
  go_enter Tryz.func58, Tryz.ntmps58
  go_wp2_with fail
  go_region_held3 (fun w' => w'.cell? ⟨gc, 0, none⟩ = some (.func (.func 30) #[] #[]) ∧ w'.cell? ⟨gk, 0, none⟩ = some (.func (.func 29) #[] #[]) ∧ w'.cell? ⟨w.heap.size, 0, none⟩ = some (.string (str x.st)) ∧ w'.cell? ⟨w.heap.size, 1, none⟩ = some (.string (str x.tw)) ∧ w'.cell? ⟨w.heap.size, 2, none⟩ = some (.string (str x.sa)) ∧ w'.cell? ⟨w.heap.size, 3, none⟩ = some (.string (str x.mi)) ∧ w'.cell? ⟨w.heap.size, 4, none⟩ = some (.string (str x.en)) ∧ w'.cell? ⟨w.heap.size + 1, 0, none⟩ = some (.string (str y.st)) ∧ w'.cell? ⟨w.heap.size + 1, 1, none⟩ = some (.string (str y.tw)) ∧ w'.cell? ⟨w.heap.size + 1, 2, none⟩ = some (.string (str y.sa)) ∧ w'.cell? ⟨w.heap.size + 1, 3, none⟩ = some (.string (str y.mi)) ∧ w'.cell? ⟨w.heap.size + 1, 4, none⟩ = some (.string (str y.en)))
    (first | (refine ⟨later (ext_of_grows (by repeat first | exact growsIs _ | refine growsA ?_ | refine growsN ?_ | refine growsD ?_)) hc, later (ext_of_grows (by repeat first | exact growsIs _ | refine growsA ?_ | refine growsN ?_ | refine growsD ?_)) hk, ?_⟩; go_keep) | go_keep | assumption)
    (first
      | (go_at_call 29; refine (key6_any _).mono ?_; rintro e w9 ⟨rfl, rfl⟩)
      | (go_at_call 30; refine (compareS_any _ _).mono ?_; first | rintro e w9 ⟨rfl, rfl⟩ | rintro e w9 ⟨rfl, n9, os9, rfl⟩)
      | fail)
  all_goals
    go_wp2
    go_ret
    exact ⟨rfl, by repeat first | exact growsIs _ | refine growsA ?_ | refine growsN ?_ | refine growsD ?_⟩
set_option maxHeartbeats 3200000 in
theorem cmpDP_any {gc gk : Nat} (hc : w.cell? ⟨gc, 0, none⟩ = some (.func (.func 30) #[] #[])) (hk : w.cell? ⟨gk, 0, none⟩ = some (.func (.func 40) #[] #[])) (x y : DpP) :
    Calls Tryz.prog 63 #[.agg #[.string (str x.sk), .string (str x.pa)], .agg #[.string (str y.sk), .string (str y.pa)], .pointer (some ⟨gc, 0, none⟩), .pointer (some ⟨gk, 0, none⟩)] w fun e w' => e = .returned (.int .i64 (cmpL x.sk y.sk)) ∧ ∃ q os', w' = grow (w.drewN q) os' := by
  have hlc := World.block_lt_of_cell? w _ hc
  have hlk := World.block_lt_of_cell? w _ hk
  dsimp only at hlc hlk
  go_enter Tryz.func63, Tryz.ntmps63
  go_wp2_with fail
  go_region_held3 (fun w' => w'.cell? ⟨gc, 0, none⟩ = some (.func (.func 30) #[] #[]) ∧ w'.cell? ⟨gk, 0, none⟩ = some (.func (.func 40) #[] #[]) ∧ w'.cell? ⟨w.heap.size, 0, none⟩ = some (.string (str x.sk)) ∧ w'.cell? ⟨w.heap.size, 1, none⟩ = some (.string (str x.pa)) ∧ w'.cell? ⟨w.heap.size + 1, 0, none⟩ = some (.string (str y.sk)) ∧ w'.cell? ⟨w.heap.size + 1, 1, none⟩ = some (.string (str y.pa)))
    (first | (refine ⟨later (ext_of_grows (by repeat first | exact growsIs _ | refine growsA ?_ | refine growsN ?_ | refine growsD ?_)) hc, later (ext_of_grows (by repeat first | exact growsIs _ | refine growsA ?_ | refine growsN ?_ | refine growsD ?_)) hk, ?_⟩; go_keep) | go_keep | assumption)
    (first
      | (go_at_call 40; refine (key11_any _).mono ?_; rintro e w9 ⟨rfl, rfl⟩)
      | (go_at_call 30; refine (compareS_any _ _).mono ?_; first | rintro e w9 ⟨rfl, rfl⟩ | rintro e w9 ⟨rfl, n9, os9, rfl⟩)
      | fail)
  all_goals
    go_wp2
    go_ret
    exact ⟨rfl, by repeat first | exact growsIs _ | refine growsA ?_ | refine growsN ?_ | refine growsD ?_⟩
set_option maxHeartbeats 3200000 in
theorem cmpUP_any {gc gk : Nat} (hc : w.cell? ⟨gc, 0, none⟩ = some (.func (.func 35) #[] #[])) (hk : w.cell? ⟨gk, 0, none⟩ = some (.func (.func 34) #[] #[])) (x y : UpP) :
    Calls Tryz.prog 61 #[.agg #[.string (str x.un), .string (str x.cl), .string (str x.pa)], .agg #[.string (str y.un), .string (str y.cl), .string (str y.pa)], .pointer (some ⟨gc, 0, none⟩), .pointer (some ⟨gk, 0, none⟩)] w fun e w' => e = .returned (.int .i64 (cmpQ (upK x) (upK y))) ∧ ∃ q os', w' = grow (w.drewN q) os' := by
  obtain ⟨w2, hw2⟩ : ∃ w2, w2 = (w.alloc (.cells #[.string (str x.un), .string (str x.cl), .string (str x.pa)] 79)).alloc (.cells #[.string (str y.un), .string (str y.cl), .string (str y.pa)] 79) := ⟨_, rfl⟩
  have hG : ∃ q os', w2 = grow (w.drewN q) os' := by rw [hw2]; exact growsA (growsA (growsIs _))
  have hE2 : Ext w w2 := ext_of_grows hG
  have hb1 : Blk w2 w.heap.size 79 #[.string (str x.un), .string (str x.cl), .string (str x.pa)] := by rw [hw2]; exact (Blk.new w _ _).alloc _
  have hb2 : Blk w2 (w.heap.size + 1) 79 #[.string (str y.un), .string (str y.cl), .string (str y.pa)] := by rw [hw2]; exact blk_new1 w _ _ _
  have HW2 := Lib.hid hw2
  obtain ⟨g1, hg1⟩ : ∃ g, g = w.heap.size := ⟨_, rfl⟩
  obtain ⟨g2, hg2⟩ : ∃ g, g = w.heap.size + 1 := ⟨_, rfl⟩
  rw [← hg1] at hb1
  rw [← hg2] at hb2
  have HG1 := Lib.hid hg1
  have HG2 := Lib.hid hg2
  have HG := Lib.hid hG
  have zc := laters (later hE2 hc)
  have zk := laters (later hE2 hk)
  have x0 := laters (show w2.cell? ⟨g1, 0, none⟩ = some (.string (str x.un)) from hb1.cell 0)
  have x1 := laters (show w2.cell? ⟨g1, 1, none⟩ = some (.string (str x.cl)) from hb1.cell 1)
  have x2 := laters (show w2.cell? ⟨g1, 2, none⟩ = some (.string (str x.pa)) from hb1.cell 2)
  have y0 := laters (show w2.cell? ⟨g2, 0, none⟩ = some (.string (str y.un)) from hb2.cell 0)
  have y1 := laters (show w2.cell? ⟨g2, 1, none⟩ = some (.string (str y.cl)) from hb2.cell 1)
  have y2 := laters (show w2.cell? ⟨g2, 2, none⟩ = some (.string (str y.pa)) from hb2.cell 2)
  clear hw2 hg1 hg2 hG hb1 hb2 hE2 hc hk
  go_enter Tryz.func61, Tryz.ntmps61
  go_upto_region 1 with fail
  rw [← HW2.out, ← HG2.out, ← HG1.out]
  have hE0 : Ext w2 w2 := Ext.refl w2
  go_region_held3 (fun w' => Ext w2 w')
    (first | exact ext_of_grows (by repeat first | exact growsIs _ | refine growsA ?_ | refine growsN ?_ | refine growsD ?_) | assumption)
    (first
      | (go_at_call 34; refine (key8_any _).mono ?_; rintro e w9 ⟨rfl, rfl⟩)
      | (go_at_call 35; refine (cmp9_any _ _).mono ?_; rintro e w9 ⟨rfl, n9, os9, rfl⟩)
      | fail)
  all_goals
    go_wp2
    go_ret
    refine ⟨rfl, ?_⟩
    have hG := HG.out
    repeat first | exact hG | refine growsA ?_ | refine growsN ?_ | refine growsD ?_
end
end Go.Proofs.YtdgppdiickmofaaGreatDoor

/- The program's effective locales: the sorts of patterns. -/
namespace Go.Proofs.YtdgppdiickmofaaGreatDoor
open Go.RowKit Go.Lib Go.Sort Go.Shelf
set_option maxRecDepth 100000
theorem flat_lenG {α : Type} {cs : α → List Value} {k : Nat} (h1 : ∀ x, (cs x).length = k) (l : List α) : (l.flatMap cs).length = l.length * k := by
  induction l with
  | nil => simp
  | cons x t ih => rw [List.flatMap_cons, List.length_append, ih, h1, List.length_cons, Nat.succ_mul]; omega
section
variable {α : Type} [Inhabited α] {cs : α → List Value} {k : Nat} {w : World}
theorem holdsG (hk : 0 < k) {e : TypeId} {base g m c : Nat} {l : List α} (h : OsC cs e k w base (some ⟨g, 0, none⟩) m c l) : HoldsK cs k w g 0 l.toArray := by
  intro j hj
  rw [size_flatK] at hj
  have hj' : j < l.length * k := by simpa using hj
  have hl := h.len
  refine ⟨?_, World.ownsRow.frozenAt h.own _⟩
  rw [World.ownsRow.cellAt h.own _ (by first | (rw [hl]; simpa using hj') | simpa using hj'), get_flatK _ _ _ _ hj, Nat.zero_add]
  have hq : j / k < l.length := (Nat.div_lt_iff_lt_mul hk).2 hj'
  have hr : j % k < k := Nat.mod_lt _ hk
  have hjk : j / k * k + j % k = j := by rw [Nat.mul_comm]; exact Nat.div_add_mod j k
  have h1 := flat_at h.one l (j / k) (j % k) hq hr
  rw [hjk] at h1
  have h2 : l.toArray[j / k]! = l[j / k] := by simp [hq]
  rw [h1, h2]
  have h3 : j % k < (cs (l[j / k])).length := by rw [h.one]; exact hr
  rw [List.getElem?_eq_getElem h3, id]
  simp [List.getElem!_eq_getElem?_getD, List.getElem?_eq_getElem h3]
theorem slc_of_holdsG (hk : 0 < k) (h1 : ∀ x, (cs x).length = k) {W : World} {g m : Nat} {l : List α} (h : HoldsK cs k W g 0 l.toArray) (hm : m = l.length) (hg : g < W.heap.size) (hle : m ≤ 17592186044416) : SlC cs k W (some ⟨g, 0, none⟩) m l := by
  have hfl := flat_lenG h1 l
  refine ⟨⟨by rw [hfl, hm], fun _ => ⟨_, rfl, hg, fun j u hu => ?_⟩⟩, h1, hm, by omega⟩
  have hj : j < l.length * k := by rw [← hfl]; exact (List.getElem?_eq_some_iff.1 hu).1
  have hj2 : j < (flatK cs k l.toArray).size := by rw [size_flatK]; simpa using hj
  have h3 := (h j hj2).1
  rw [get_flatK _ _ _ _ (by simpa using hj)] at h3
  rw [Addr.add_lit, h3]
  have hq : j / k < l.length := (Nat.div_lt_iff_lt_mul hk).2 hj
  have hr : j % k < k := Nat.mod_lt _ hk
  have hjk : j / k * k + j % k = j := by rw [Nat.mul_comm]; exact Nat.div_add_mod j k
  have h5 := flat_at h1 l (j / k) (j % k) hq hr
  rw [hjk, hu] at h5
  have h2 : l.toArray[j / k]! = l[j / k] := by simp [hq]
  have h4 : j % k < (cs (l[j / k])).length := by rw [h1]; exact hr
  rw [h2, id, h5, List.getElem?_eq_getElem h4]
  simp [List.getElem!_eq_getElem?_getD, List.getElem?_eq_getElem h4]
end
section
variable {w : World}
theorem grownByG {g n : Nat} {os : Array Obj} (F : Array Value) : w.grownBy (grow (putRow id (Sort.ahead w n) g 0 F) os) (some g) := by
  refine ⟨rfl, rfl, rfl, by simp, fun k hk hne => ?_⟩
  rw [heap_grow_old _ _ (by simpa using hk)]
  have : g ≠ k := fun e => hne (by rw [e])
  simp [putRow, mapBlock, Sort.ahead, Array.getElem?_modify, this]
set_option maxHeartbeats 1600000 in
theorem sortLP_any {base gc gk : Nat} {A : Option Addr} {m c : Nat} {l : List LpP} (h : OsC lpC 71 5 w base A m c l) (hc : w.cell? ⟨gc, 0, none⟩ = some (.func (.func 30) #[] #[])) (hk : w.cell? ⟨gk, 0, none⟩ = some (.func (.func 29) #[] #[])) (hnc : ob A ≠ some gc) (hnk : ob A ≠ some gk) :
    Calls Tryz.prog 57 #[.slice A m c, .func (.func 58) #[] #[.pointer (some ⟨gc, 0, none⟩), .pointer (some ⟨gk, 0, none⟩)]] w fun e w' => e = .returned (.tuple #[]) ∧ (∃ l', SlC lpC 5 w' A m l' ∧ l'.Perm l ∧ l'.Pairwise fun x y => ltOf cmpL (LpP.st y) (LpP.st x) = false) ∧ w.grownBy w' (ob A) := by
  rcases h.own.2 with ⟨hv, h0⟩ | ⟨g, cap, cur, hv, _⟩
  · injection hv with hA hm hcc
    subst hA hcc
    have hm0 : m = 0 := by omega
    subst hm0
    have hl : l = [] := List.length_eq_zero_iff.1 h.len.symm
    subst hl
    refine (AnyF.slices_SortFunc_none Tryz.sortLP none 0 _ w).mono ?_
    rintro e w' ⟨rfl, rfl⟩
    exact ⟨rfl, ⟨[], SlC.nil_ lpC_len, .refl _, .nil⟩, (Ext.refl _).grownBy _⟩
  · injection hv with hA hm hcc
    subst hA
    have hlt := h.lt g rfl
    have hl := h.len
    have hle := h.le
    have hs : l.toArray.size = m := by simp [hl]
    have hcmp : CmpLays Tryz.prog 58 #[.pointer (some ⟨gc, 0, none⟩), .pointer (some ⟨gk, 0, none⟩)] lpC 5 (fun x y => cmpL (LpP.st x) (LpP.st y)) g 0 l.toArray.size w := fun n os dk _ x y => by
      have hg := grownByG (w := w) (g := g) (n := n) (os := os) (flatK lpC 5 dk)
      have hkp := KpS.grown hg
      exact cmpLP_any (hkp.cell (fun e => hnc (by injection e with e; rw [e]; rfl)) hc) (hkp.cell (fun e => hnk (by injection e with e; rw [e]; rfl)) hk) x y
    have h1 := AnyQ.slices_SortFunc Tryz.sortLP 5 Tryz.isAgg71 Tryz.sizeOf71 lpC lpC_len lpC_cell (fun x y => cmpL (LpP.st x) (LpP.st y)) (swoS LpP.st) 58 #[.pointer (some ⟨gc, 0, none⟩), .pointer (some ⟨gk, 0, none⟩)] g 0 c l.toArray w (fun _ _ => rfl) hcmp (holdsG (by omega) h) hlt (by rw [hs]; omega)
    rw [hs] at h1
    refine h1.mono ?_
    rintro e w' ⟨rfl, d', n, os, ⟨hp1, _, hp3⟩, hso, rfl⟩
    have hp1' : d'.size = m := by rw [hp1, hs]
    have hh := holdsK_sortWorldK_c lpC 5 w g 0 l.toArray d' n os (holdsG (by omega) h) hlt hp1
    have hg := grownByG (w := w) (g := g) (n := n) (os := os) (flatK lpC 5 d')
    refine ⟨rfl, ⟨d'.toList, slc_of_holdsG (by omega) lpC_len (by simpa using hh) (by simp [hp1']) (Nat.lt_of_lt_of_le hlt hg.size) hle, ?_, ?_⟩, hg⟩
    · have e1 : d'.extract 0 m = d' := by rw [← hp1']; simp
      have e2 : l.toArray.extract 0 m = l.toArray := by rw [← hs]; simp
      rw [e1, e2] at hp3
      simpa using hp3
    · rw [List.pairwise_iff_getElem]
      intro i j hi hj hij
      have h2 := hso i j (by omega) hij (by simpa [hp1'] using hj)
      simp only [Array.length_toList] at hi hj
      rw [getElem!_pos d' i hi, getElem!_pos d' j hj] at h2
      exact h2
set_option maxHeartbeats 1600000 in
theorem sortUP_any {base gc gk : Nat} {A : Option Addr} {m c : Nat} {l : List UpP} (h : OsC upC 79 3 w base A m c l) (hc : w.cell? ⟨gc, 0, none⟩ = some (.func (.func 35) #[] #[])) (hk : w.cell? ⟨gk, 0, none⟩ = some (.func (.func 34) #[] #[])) (hnc : ob A ≠ some gc) (hnk : ob A ≠ some gk) :
    Calls Tryz.prog 60 #[.slice A m c, .func (.func 61) #[] #[.pointer (some ⟨gc, 0, none⟩), .pointer (some ⟨gk, 0, none⟩)]] w fun e w' => e = .returned (.tuple #[]) ∧ (∃ l', SlC upC 3 w' A m l' ∧ l'.Perm l ∧ l'.Pairwise fun x y => ltOf cmpQ (upK y) (upK x) = false) ∧ w.grownBy w' (ob A) := by
  rcases h.own.2 with ⟨hv, h0⟩ | ⟨g, cap, cur, hv, _⟩
  · injection hv with hA hm hcc
    subst hA hcc
    have hm0 : m = 0 := by omega
    subst hm0
    have hl : l = [] := List.length_eq_zero_iff.1 h.len.symm
    subst hl
    refine (AnyF.slices_SortFunc_none Tryz.sortUP none 0 _ w).mono ?_
    rintro e w' ⟨rfl, rfl⟩
    exact ⟨rfl, ⟨[], SlC.nil_ upC_len, .refl _, .nil⟩, (Ext.refl _).grownBy _⟩
  · injection hv with hA hm hcc
    subst hA
    have hlt := h.lt g rfl
    have hl := h.len
    have hle := h.le
    have hs : l.toArray.size = m := by simp [hl]
    have hcmp : CmpLays Tryz.prog 61 #[.pointer (some ⟨gc, 0, none⟩), .pointer (some ⟨gk, 0, none⟩)] upC 3 (fun x y => cmpQ (upK x) (upK y)) g 0 l.toArray.size w := fun n os dk _ x y => by
      have hg := grownByG (w := w) (g := g) (n := n) (os := os) (flatK upC 3 dk)
      have hkp := KpS.grown hg
      exact cmpUP_any (hkp.cell (fun e => hnc (by injection e with e; rw [e]; rfl)) hc) (hkp.cell (fun e => hnk (by injection e with e; rw [e]; rfl)) hk) x y
    have h1 := AnyQ.slices_SortFunc Tryz.sortUP 3 Tryz.isAgg79 Tryz.sizeOf79 upC upC_len upC_cell (fun x y => cmpQ (upK x) (upK y)) (swoQ upK) 61 #[.pointer (some ⟨gc, 0, none⟩), .pointer (some ⟨gk, 0, none⟩)] g 0 c l.toArray w (fun _ _ => rfl) hcmp (holdsG (by omega) h) hlt (by rw [hs]; omega)
    rw [hs] at h1
    refine h1.mono ?_
    rintro e w' ⟨rfl, d', n, os, ⟨hp1, _, hp3⟩, hso, rfl⟩
    have hp1' : d'.size = m := by rw [hp1, hs]
    have hh := holdsK_sortWorldK_c upC 3 w g 0 l.toArray d' n os (holdsG (by omega) h) hlt hp1
    have hg := grownByG (w := w) (g := g) (n := n) (os := os) (flatK upC 3 d')
    refine ⟨rfl, ⟨d'.toList, slc_of_holdsG (by omega) upC_len (by simpa using hh) (by simp [hp1']) (Nat.lt_of_lt_of_le hlt hg.size) hle, ?_, ?_⟩, hg⟩
    · have e1 : d'.extract 0 m = d' := by rw [← hp1']; simp
      have e2 : l.toArray.extract 0 m = l.toArray := by rw [← hs]; simp
      rw [e1, e2] at hp3
      simpa using hp3
    · rw [List.pairwise_iff_getElem]
      intro i j hi hj hij
      have h2 := hso i j (by omega) hij (by simpa [hp1'] using hj)
      simp only [Array.length_toList] at hi hj
      rw [getElem!_pos d' i hi, getElem!_pos d' j hj] at h2
      exact h2
set_option maxHeartbeats 1600000 in
theorem sortDP_any {base gc gk : Nat} {A : Option Addr} {m c : Nat} {l : List DpP} (h : OsC dpC 89 2 w base A m c l) (hc : w.cell? ⟨gc, 0, none⟩ = some (.func (.func 30) #[] #[])) (hk : w.cell? ⟨gk, 0, none⟩ = some (.func (.func 40) #[] #[])) (hnc : ob A ≠ some gc) (hnk : ob A ≠ some gk) :
    Calls Tryz.prog 62 #[.slice A m c, .func (.func 63) #[] #[.pointer (some ⟨gc, 0, none⟩), .pointer (some ⟨gk, 0, none⟩)]] w fun e w' => e = .returned (.tuple #[]) ∧ (∃ l', SlC dpC 2 w' A m l' ∧ l'.Perm l ∧ l'.Pairwise fun x y => ltOf cmpL (DpP.sk y) (DpP.sk x) = false) ∧ w.grownBy w' (ob A) := by
  rcases h.own.2 with ⟨hv, h0⟩ | ⟨g, cap, cur, hv, _⟩
  · injection hv with hA hm hcc
    subst hA hcc
    have hm0 : m = 0 := by omega
    subst hm0
    have hl : l = [] := List.length_eq_zero_iff.1 h.len.symm
    subst hl
    refine (AnyF.slices_SortFunc_none Tryz.sortDP none 0 _ w).mono ?_
    rintro e w' ⟨rfl, rfl⟩
    exact ⟨rfl, ⟨[], SlC.nil_ dpC_len, .refl _, .nil⟩, (Ext.refl _).grownBy _⟩
  · injection hv with hA hm hcc
    subst hA
    have hlt := h.lt g rfl
    have hl := h.len
    have hle := h.le
    have hs : l.toArray.size = m := by simp [hl]
    have hcmp : CmpLays Tryz.prog 63 #[.pointer (some ⟨gc, 0, none⟩), .pointer (some ⟨gk, 0, none⟩)] dpC 2 (fun x y => cmpL (DpP.sk x) (DpP.sk y)) g 0 l.toArray.size w := fun n os dk _ x y => by
      have hg := grownByG (w := w) (g := g) (n := n) (os := os) (flatK dpC 2 dk)
      have hkp := KpS.grown hg
      exact cmpDP_any (hkp.cell (fun e => hnc (by injection e with e; rw [e]; rfl)) hc) (hkp.cell (fun e => hnk (by injection e with e; rw [e]; rfl)) hk) x y
    have h1 := AnyQ.slices_SortFunc Tryz.sortDP 2 Tryz.isAgg89 Tryz.sizeOf89 dpC dpC_len dpC_cell (fun x y => cmpL (DpP.sk x) (DpP.sk y)) (swoS DpP.sk) 63 #[.pointer (some ⟨gc, 0, none⟩), .pointer (some ⟨gk, 0, none⟩)] g 0 c l.toArray w (fun _ _ => rfl) hcmp (holdsG (by omega) h) hlt (by rw [hs]; omega)
    rw [hs] at h1
    refine h1.mono ?_
    rintro e w' ⟨rfl, d', n, os, ⟨hp1, _, hp3⟩, hso, rfl⟩
    have hp1' : d'.size = m := by rw [hp1, hs]
    have hh := holdsK_sortWorldK_c dpC 2 w g 0 l.toArray d' n os (holdsG (by omega) h) hlt hp1
    have hg := grownByG (w := w) (g := g) (n := n) (os := os) (flatK dpC 2 d')
    refine ⟨rfl, ⟨d'.toList, slc_of_holdsG (by omega) dpC_len (by simpa using hh) (by simp [hp1']) (Nat.lt_of_lt_of_le hlt hg.size) hle, ?_, ?_⟩, hg⟩
    · have e1 : d'.extract 0 m = d' := by rw [← hp1']; simp
      have e2 : l.toArray.extract 0 m = l.toArray := by rw [← hs]; simp
      rw [e1, e2] at hp3
      simpa using hp3
    · rw [List.pairwise_iff_getElem]
      intro i j hi hj hij
      have h2 := hso i j (by omega) hij (by simpa [hp1'] using hj)
      simp only [Array.length_toList] at hi hj
      rw [getElem!_pos d' i hi, getElem!_pos d' j hj] at h2
      exact h2
end
end Go.Proofs.YtdgppdiickmofaaGreatDoor
