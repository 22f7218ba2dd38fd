/- The program's extract: the arguments of a call. -/
import Derived.Test.YtgnchicipmomlaaGreatDoorPK33
namespace Go.Proofs.YtgnchicipmomlaaGreatDoor
open Go.RowKit Go.Maps
set_option maxRecDepth 100000
attribute [local go_sem] ext_refl_t ext_alloc_t ext_drew_t ext_drewN_t ext_alloc2_t ext_alloc3_t ext_alloc4_t ext_alloc5_t ext_alloc6_t ext_alloc7_t ext_alloc8_t ext_alloc1d_t ext_alloc2d_t ext_alloc3d_t ext_alloc4d_t
theorem einfo_toks : EInfo 120 121 1 24 := EInfo.mk_ (z := .slice none 0 0) Tryz.underlying120 (by kernel_rfl) rfl (by omega) (by omega)
/-- A row that is done: it lies apart from the blocks of S. -/
def DnK (S : Nat → Prop) (w : World) (y : SlH) : Prop := (∃ L, ToksS w y L) ∧ ApS S y
/-- The rows of arguments: d, and the one in work (x in B, n, p). -/
structure ArC (w wr : World) (A : Option Addr) (m c : Nat) (d : List SlH) (B : Option Addr) (n p : Nat) (x : List Tok) : Prop where
  ext : Ext w wr
  own : OsC shC 121 1 wr w.heap.size A m c (d ++ [⟨B, n, p⟩])
  dn : ∀ y ∈ d, DnK (ob2 A B) wr y
  cu : OsC tokC 161 3 wr w.heap.size B n p x
  good : ∀ t ∈ x, TokG 1000 t
section
variable {S S0 S' : Nat → Prop} {w w' wr w2 : World} {A A' B B' : Option Addr} {m c m' c' n p n' p' : Nat} {d : List SlH} {x : List Tok}
theorem DnK.kp {y : SlH} (h : DnK S w y) (hk : KpS S0 w w') (h0 : ∀ j, S0 j → S j) (hS : ∀ g, S' g → S g ∨ w.heap.size ≤ g) : DnK S' w' y := by
  obtain ⟨⟨L, hL, hl⟩, ha⟩ := h
  exact ⟨⟨L, ⟨hk.slc hL.sl (ha.mono fun j _ hj => h0 j hj), hL.cap, hL.bd, hL.good⟩, hl⟩, ApS.lt hL ha hS⟩
theorem ArC.extn (h : ArC w wr A m c d B n p x) (hE : Ext wr w2) : ArC w w2 A m c d B n p x :=
  ⟨h.ext.trans hE, h.own.ext hE, fun y hy => (h.dn y hy).kp (KpS.of_ext (fun _ => False) hE) (fun _ e => e.elim) (fun _ hg => .inl hg), h.cu.ext hE, h.good⟩
theorem ArC.app (h : ArC w wr A m c d B n p x) (hn : n ≤ 1000) (ho : OsC shC 121 1 w2 w.heap.size A' m' c' ((d ++ [⟨B, n, p⟩]) ++ [⟨none, 0, 0⟩])) (hg : wr.grownBy w2 (ob A)) (hN : NewOr wr.heap.size (ob A) (ob A')) : ArC w w2 A' m' c' (d ++ [⟨B, n, p⟩]) none 0 0 [] := by
  have hS : ∀ g, ob2 A' none g → ob2 A B g ∨ wr.heap.size ≤ g := fun g hg => by
    rcases hg with hg | hg
    · rcases hN g hg with h1 | h1
      · exact .inr h1
      · exact .inl (.inl h1)
    · cases hg
  have hk := KpS.grown hg
  refine ⟨h.ext.grown hg (fun j hj => h.own.ge j hj), ho, fun y hy => ?_, OsC.nil_ tokC_len tokC_cell, fun r hr => (by cases hr)⟩
  rcases List.mem_append.1 hy with hy | hy
  · exact (h.dn y hy).kp hk (fun j hj => .inl hj) hS
  · rw [List.mem_singleton] at hy
    subst hy
    have hap : ApS (fun k => ob A = some k) (⟨B, n, p⟩ : SlH) := .inr fun g hg hS => ob_types h.own h.cu (by decide) hS hg
    refine ⟨⟨x, ⟨hk.slc h.cu.sl hap, h.cu.cap, (show n * 40 ≤ 140737488351232 by omega), h.good⟩, by rw [← h.cu.len]; exact hn⟩, ?_⟩
    refine .inr fun g hg hS' => ?_
    have hlt := h.cu.lt g hg
    rcases hS g hS' with h1 | h1
    · rcases hS' with h2 | h2
      · rcases hN g h2 with h3 | h3
        · omega
        · exact ob_types h.own h.cu (by decide) h3 hg
      · cases h2
    · omega
theorem ArC.tok {t : Tok} {b : Nat} (h : ArC w wr A m c d B n p x) (hA : A = some ⟨b, 0, none⟩) (hr : TokG 1000 t) (ho : OsC tokC 161 3 w2 w.heap.size B' n' p' (x ++ [t])) (hg : wr.grownBy w2 (ob B)) (hN : NewOr wr.heap.size (ob B) (ob B')) :
    ArC w (w2.setCell ⟨b, d.length, none⟩ (.slice B' n' p')) A m c d B' n' p' (x ++ [t]) := by
  subst hA
  have hne : ob (some ⟨b, 0, none⟩ : Option Addr) ≠ ob B := fun e => ob_types h.own h.cu (by decide) (show ob (some ⟨b, 0, none⟩ : Option Addr) = some b from rfl) (by rw [← e]; rfl)
  have hown2 := h.own.kept hg (.inr hne)
  have hS : ∀ g, ob2 (some ⟨b, 0, none⟩) B' g → ob2 (some ⟨b, 0, none⟩) B g ∨ wr.heap.size ≤ g := fun g hg => by
    rcases hg with hg | hg
    · exact .inl (.inl hg)
    · rcases hN g hg with h1 | h1
      · exact .inr h1
      · exact .inl (.inr h1)
  have hk1 : KpS (fun k => ob B = some k) wr w2 := KpS.grown hg
  have hk2 := KpS.setCell w2 b d.length (.slice B' n' p')
  have hs2 : ∀ k, k = b → ob2 (some ⟨b, 0, none⟩) B' k := fun k hk => .inl (by rw [hk]; rfl)
  refine ⟨(h.ext.grown hg (fun j hj => h.cu.ge j hj)).set_ (p := ⟨b, _, none⟩) (h.own.ge b rfl) _, ?_, fun y hy => ((h.dn y hy).kp hk1 (fun k hk => .inr hk) hS).kp hk2 hs2 (fun _ hg => .inl hg), ho.kept (grown_setB w2 ⟨b, _, none⟩ _) (.inr fun e => ob_types hown2 ho (by decide) (show ob (some ⟨b, 0, none⟩ : Option Addr) = some b from rfl) e), fun z hz => ?_⟩
  · have h3 := hown2.setAt (i := d.length) (j := 0) (by simp) (by omega) ⟨B', n', p'⟩ (.slice B' n' p') (by simp [shC])
    simpa using h3
  · rcases List.mem_append.1 hz with hz | hz
    · exact h.good z hz
    · rw [List.mem_singleton] at hz
      rw [hz]
      exact hr
end
/-- .. after q tokens. -/
def AR (w wr : World) (q : Nat) (A : Option Addr) (m c : Nat) : Prop := ∃ d B n p x, ArC w wr A m c d B n p x ∧ n ≤ q ∧ m ≤ q + 1
/-- What arguments gives: nil, or rows of tokens in new memory. -/
def ArR (w w' : World) (e : Ending) : Prop :=
  Ext w w' ∧ ∃ h : SlH, e = .returned (.slice h.A h.m h.c) ∧ ∃ rows, SlC shC 1 w' h.A h.m rows ∧ RowsS w' rows
section
variable {w wr w2 : World} {A : Option Addr} {m c q : Nat}
theorem AR.ext (h : AR w wr q A m c) : Ext w wr := by obtain ⟨d, B, n, p, x, h, _⟩ := h; exact h.ext
theorem AR.extn (h : AR w wr q A m c) (hE : Ext wr w2) : AR w w2 q A m c := by obtain ⟨d, B, n, p, x, h, h1⟩ := h; exact ⟨d, B, n, p, x, h.extn hE, h1⟩
theorem AR.mono {q' : Nat} (h : AR w wr q A m c) (hq : q ≤ q') : AR w wr q' A m c := by obtain ⟨d, B, n, p, x, h, h1, h2⟩ := h; exact ⟨d, B, n, p, x, h, by omega, by omega⟩
theorem AR.res (h : AR w wr q A m c) (hq : q ≤ 1000) : ∃ rows, SlC shC 1 wr A m rows ∧ RowsS wr rows := by
  obtain ⟨d, B, n, p, x, h, hn, _⟩ := h
  refine ⟨_, h.own.sl, fun r hr => ?_⟩
  rcases List.mem_append.1 hr with hr | hr
  · exact (h.dn r hr).1
  · rw [List.mem_singleton] at hr
    rw [hr]
    exact ⟨x, ⟨h.cu.sl, h.cu.cap, (show n * 40 ≤ 140737488351232 by omega), h.good⟩, by rw [← h.cu.len]; omega⟩
theorem AR.start (w : World) : AR w (w.alloc (Obj.cells #[.slice none 0 0] 121)) 0 (some ⟨w.heap.size, 0, none⟩) 1 1 :=
  ⟨[], none, 0, 0, [], ⟨(Ext.refl w).alloc _, OsC.newL w w.heap.size (Nat.le_refl _) [(⟨none, 0, 0⟩ : SlH)] shC_len shC_cell (by simp) _ rfl 1 rfl, fun y hy => (by cases hy), OsC.nil_ tokC_len tokC_cell, fun t ht => (by cases ht)⟩, by omega, by omega⟩
theorem ArR.none_ (hE : Ext w w2) : ArR w w2 (.returned (.slice none 0 0)) := ⟨hE, ⟨none, 0, 0⟩, rfl, [], SlC.nil_ shC_len, fun r hr => (by cases hr)⟩
end
section
variable {w : World}
set_option maxHeartbeats 6400000 in
theorem arguments_any {h : SlH} {l : List Tok} (hs : ToksS w h l) (i : Nat) (hi : i < h.m) :
    Calls Tryz.prog 83 #[.slice h.A h.m h.c, .int .i64 (i : Int)] w fun e w' => ArR w w' e := by
  obtain ⟨A, m, c⟩ := h
  have hle := hs.1.sl.le
  have hcap := hs.1.cap
  have HG := Lib.hid hs.1.good
  have hl1000 := hs.2
  have hlen := hs.1.sl.len
  dsimp only at hle hcap hi hlen ⊢
  obtain ⟨b, off, e0, hbl, -⟩ := hs.1.sl.at_ (i := i) hi (by omega)
  dsimp only at e0
  subst e0
  have hs2 := (hs.1.sl.cut (i := i + 1) (by show i + 1 ≤ m; omega) hcap)
  have hi1 : (i : Int) < (m : Int) := by omega
  have hm1000 : m ≤ 1000 := by omega
  clear hlen hl1000
  by_cases hc : c = i + 1
  · subst hc
    have hm0 : ¬ (0 : Int) < ((m - (i + 1) : Nat) : Int) := by omega
    go_enter Tryz.func83, Tryz.ntmps83
    go_wp2
    go_loopw [16] (fun v wr => v = .int .i64 0 ∧ Ext w wr) (fun _ _ => 0)
    case atStart => exact ⟨rfl, (Ext.refl w).alloc _⟩
    case round =>
      obtain ⟨rfl, hE⟩ := hrel
      go_wp2
      go_ret
      exact ArR.none_ hE
  · dsimp only at hs2
    rw [cutA_lt (by omega)] at hs2
    obtain ⟨L, hLL⟩ : ∃ L, L = List.drop (i + 1) l := ⟨_, rfl⟩
    have HG2 : Hid (∀ t ∈ L, TokG 1000 t) := fun t ht => by rw [hLL] at ht; exact HG.out t (List.mem_of_mem_drop ht)
    have hM : m - (i + 1) ≤ 1000 := by omega
    rw [← hLL] at hs2
    clear hLL HG
    have HG := HG2
    have HL := Lib.hid hs2.len
    have hR0 := AR.start w
    go_enter Tryz.func83, Tryz.ntmps83
    go_wp2
    generalize (some (⟨b, off + (i + 1) * 3, none⟩ : Addr)) = D at hs2 ⊢
    generalize m - (i + 1) = M at hs2 hM HL ⊢
    generalize c - (i + 1) = C
    have HH := Lib.hid hs2
    obtain ⟨W0, hW0⟩ : ∃ W0, W0 = w.alloc (Obj.cells #[.slice none 0 0] 121) := ⟨_, rfl⟩
    obtain ⟨g, hg⟩ : ∃ g, g = w.heap.size := ⟨_, rfl⟩
    rw [← hW0, ← hg] at hR0
    rw [← hW0, ← hg]
    have HR0 : Hid (AR w W0 0 (some ⟨g, 0, none⟩) 1 1) := hR0
    clear hs2 HG2 hW0 hg hR0
    go_loopw [5, 6, 7, 16] (fun v5 v6 v7 v16 wr => ∃ (q : Nat) (A5 : Option Addr) (m5 c5 : Nat) (y : Int) (bb : Bool), q ≤ M ∧ v16 = .int .i64 q ∧ v5 = .slice A5 m5 c5 ∧ v6 = .int .i64 y ∧ v7 = .bool bb ∧ 0 ≤ y ∧ y ≤ q ∧ Hid (AR w wr q A5 m5 c5)) (fun _ _ _ v _ => M - (intOf v).toNat)
    case atStart => exact ⟨0, _, 1, 1, 0, false, Nat.zero_le _, rfl, rfl, rfl, rfl, by omega, by omega, HR0⟩
    case round =>
      obtain ⟨q, A5, m5, c5, y, bb, hq, rfl, rfl, rfl, rfl, hy0, hyq, HR⟩ := hrel
      by_cases hlt : q < M
      ·
        obtain ⟨b, off, e0, hbl, hcs⟩ := (HH.out.ext HR.out.ext).at_ hlt (by omega)
        try dsimp only at e0
        have hlt1 : q < (L).length := by rw [← HL.out]; exact hlt
        have HTG := Lib.hid (HG.out _ (List.getElem_mem hlt1))
        obtain ⟨⟨kd, tx, an⟩, hyq⟩ : ∃ y, y = (L)[q] := ⟨_, rfl⟩
        have y0 := hcs q hlt1 0 (by omega)
        have y1 := hcs q hlt1 1 (by omega)
        have y2 := hcs q hlt1 2 (by omega)
        rw [← hyq] at HTG
        simp only [← hyq, tokC, List.getElem_cons_zero, List.getElem_cons_succ, Nat.add_zero, ← Nat.add_assoc] at y0 y1 y2
        clear hcs hyq
        subst e0
        have hi2 : (q : Int) < (M : Int) := by omega
        have hbk := Blk.new wr 161 #[.string kd, .string tx, .int .i64 (an : Int)]
        have hEx : Ext wr (wr.alloc (Obj.cells #[.string kd, .string tx, .int .i64 (an : Int)] 161)) := (Ext.refl _).alloc _
        have HR2 := Lib.hid (HR.out.extn hEx)
        obtain ⟨rows, hrs, hrg⟩ := HR2.out.res (by omega)
        have HRS := Lib.hid hrs
        have HRG := Lib.hid hrg
        clear hrs hrg
        by_cases hy : y = 0
        · subst hy
          go_wp2_with (first
            | (go_at_call 82; refine Hid.out ?_))
          all_goals first
            | (go_ret; exact ⟨HR2.out.ext, ⟨A5, m5, c5⟩, rfl, rows, HRS.out, HRG.out⟩)
            | (go_ret; exact ArR.none_ HR2.out.ext)
            | skip
          have hkc : (kd.toList == [99, 108, 111, 115, 101]) = false := by simpa using ‹¬ kd.toList = [99, 108, 111, 115, 101]›
          refine Hid.mk_ ((blank_any ⟨kd, tx, an⟩).mono ?_)
          rintro e w3 ⟨⟨r, rfl, -⟩, hE3⟩
          have HR3 := Lib.hid (HR2.out.extn hE3)
          have hb3 := hbk.below hE3 hbk.lt
          clear hbk HRS HRG
          obtain ⟨g9, hg9⟩ : ∃ g9, g9 = wr.heap.size := ⟨_, rfl⟩
          rw [← hg9] at hb3 ⊢
          clear hg9
          cases r with
          | true =>
            go_wp2
            all_goals first
              | (refine ⟨⟨q + 1, A5, m5, c5, y, _, by omega, by go_num, rfl, rfl, rfl, by omega, by omega, HR3.out.mono (Nat.le_succ q)⟩, ?_⟩; first | (simp [intOf]; omega) | (simp [intOf]) | omega)
              | (refine ⟨⟨q + 1, A5, m5, c5, (y + 1), _, by omega, by go_num, rfl, rfl, rfl, by omega, by omega, HR3.out.mono (Nat.le_succ q)⟩, ?_⟩; first | (simp [intOf]; omega) | (simp [intOf]) | omega)
              | (refine ⟨⟨q + 1, A5, m5, c5, (y - 1), _, by omega, by go_num, rfl, rfl, rfl, by omega, by omega, HR3.out.mono (Nat.le_succ q)⟩, ?_⟩; first | (simp [intOf]; omega) | (simp [intOf]) | omega)
              | (refine ⟨⟨q + 1, A5, m5, c5, 0, _, by omega, by go_num, rfl, rfl, rfl, by omega, by omega, HR3.out.mono (Nat.le_succ q)⟩, ?_⟩; first | (simp [intOf]; omega) | (simp [intOf]) | omega)
              | (refine ⟨⟨q + 1, A5, m5, c5, 1, _, by omega, by go_num, rfl, rfl, rfl, by omega, by omega, HR3.out.mono (Nat.le_succ q)⟩, ?_⟩; first | (simp [intOf]; omega) | (simp [intOf]) | omega)
          | false =>
            obtain ⟨d, B, n, p, x, h3, hn, hm⟩ := HR3.out
            have hml := h3.own.len
            rw [List.length_append] at hml
            simp at hml
            obtain ⟨q5, hq5⟩ : ∃ q5, q5 = d.length := ⟨_, rfl⟩
            rw [← hq5] at hml
            obtain ⟨b5, cur, rfl, hbw, hbh, -, -, -, -⟩ := h3.own.row (by omega)
            subst hml
            have hl1 : q5 < (d ++ [(⟨B, n, p⟩ : SlH)]).length := by rw [List.length_append, hq5]; simp
            have hx0 : (d ++ [(⟨B, n, p⟩ : SlH)])[q5] = ⟨B, n, p⟩ := by simp [hq5]
            obtain ⟨b', off', hA', -, hcs⟩ := h3.own.sl.at_ (i := q5) (by omega) (by omega)
            simp only [Option.some.injEq, Addr.mk.injEq, and_true] at hA'
            obtain ⟨rfl, rfl⟩ := hA'
            have z0 := hcs q5 hl1 0 (by omega)
            simp only [hx0, shC, List.getElem_cons_zero, Nat.mul_one, Nat.add_zero, Nat.zero_add] at z0
            have hbB : Blk w3 b5 121 cur := hbh
            have f1 := hbB.frozen q5
            have hqi : (q5 : Int) < (q5 : Int) + 1 := by omega
            have hwq : IntKind.i64.wrap (q5 : Int) = (q5 : Int) := IntWalk.i64_in _ (by omega)
            have k0 := hb3.cell 0
            have k1 := hb3.cell 1
            have k2 := hb3.cell 2
            simp at k0 k1 k2
            have HQ := Lib.hid hq5
            have HA3 := Lib.hid h3
            clear hx0 hcs hl1 hq5 h3
            go_wp2_with (first
              | (at_builtin; refine Hid.out ?_))
            have hEc : Ext w3 (w3.alloc (Obj.cells #[.slice none 0 0] 121)) := (Ext.refl _).alloc _
            have hnc := SlC.new_ (cs := shC) w3 [(⟨none, 0, 0⟩ : SlH)] shC_len (by simp) #[.slice none 0 0] rfl (0, 0) 1 rfl 121
            have hac := HA3.out.extn hEc
            all_goals first
              | (refine Hid.mk_ ?_
                 refine appC einfo_toks rfl _ _ rfl hac.own rfl hnc rfl (by omega) hac.ext.size_le ?_
                 intro A8 m8 c8 w8 ho8 hg8 hn8
                 have HM8 : Hid (m8 ≤ (q5 + 1) + 1) := by show m8 ≤ (q5 + 1) + 1; rw [ho8.len, List.length_append, ← hac.own.len]; exact Nat.le_refl _
                 have HN8 : Hid (AR w w8 (q + 1) A8 m8 c8) := ⟨_, _, _, _, _, hac.app (by omega) ho8 hg8 hn8, by omega, by have := HM8.out; omega⟩
                 clear ho8 hg8 hn8 hac
                 go_wp2
                 all_goals first
                   | (refine ⟨⟨q + 1, A8, m8, c8, y, _, by omega, by go_num, rfl, rfl, rfl, by omega, by omega, HN8⟩, ?_⟩; first | (simp [intOf]; omega) | (simp [intOf]) | omega)
                   | (refine ⟨⟨q + 1, A8, m8, c8, (y + 1), _, by omega, by go_num, rfl, rfl, rfl, by omega, by omega, HN8⟩, ?_⟩; first | (simp [intOf]; omega) | (simp [intOf]) | omega)
                   | (refine ⟨⟨q + 1, A8, m8, c8, (y - 1), _, by omega, by go_num, rfl, rfl, rfl, by omega, by omega, HN8⟩, ?_⟩; first | (simp [intOf]; omega) | (simp [intOf]) | omega)
                   | (refine ⟨⟨q + 1, A8, m8, c8, 0, _, by omega, by go_num, rfl, rfl, rfl, by omega, by omega, HN8⟩, ?_⟩; first | (simp [intOf]; omega) | (simp [intOf]) | omega)
                   | (refine ⟨⟨q + 1, A8, m8, c8, 1, _, by omega, by go_num, rfl, rfl, rfl, by omega, by omega, HN8⟩, ?_⟩; first | (simp [intOf]; omega) | (simp [intOf]) | omega)
                )
              | skip
            all_goals
              have hnew : SlC tokC 3 (w3.alloc (Obj.cells #[.string kd, .string tx, .int .i64 (an : Int)] 161)).drew (some ⟨w3.heap.size, 0, none⟩) 1 [(⟨kd, tx, an⟩ : Tok)] := (SlC.new_ (cs := tokC) w3 [(⟨kd, tx, an⟩ : Tok)] tokC_len (by simp) _ rfl (0, 0) 1 rfl 161).ext (Ext.refl _).drew
              have hEa : Ext w3 (w3.alloc (Obj.cells #[.string kd, .string tx, .int .i64 (an : Int)] 161)).drew := ((Ext.refl _).alloc _).drew
              have ha := HA3.out.extn hEa
              have hsz := ha.ext.size_le
              have hb8f : ∀ W', (w3.alloc (Obj.cells #[.string kd, .string tx, .int .i64 (an : Int)] 161)).drew.grownBy W' (ob B) → Blk W' b5 121 cur := fun W' hg8 => (hbB.below hEa hbB.lt).grown hg8 (fun e => ob_types ha.own ha.cu (by decide) (show ob (some ⟨b5, 0, none⟩ : Option Addr) = some b5 from rfl) e.symm)
              have hcu : cur[q5]? = some (.slice B n p) := by rw [← hbB.cell]; exact z0
              have Y1 := laters z0
              have HB8 := Lib.hid hb8f
              have HCU := Lib.hid hcu
              clear hb8f hcu
              go_region_law
                (first
                  | (refine step_appC einfo_tok rfl _ _ rfl ha.cu rfl hnew rfl (by show (n + 1) * 40 ≤ _; omega) hsz ?_
                     intro A8 m8 c8 w8 ho8 hg8 hn8
                     have hb8 := HB8.out w8 hg8
                     have f8 := hb8.frozen q5
                     have k8 : w8.cell? ⟨b5, q5, none⟩ = some (.slice B n p) := (by rw [hb8.cell]; exact HCU.out))
                  | fail)
              all_goals
                have hp8 := ArC.tok ha rfl HTG.out ho8 hg8 hn8
                rw [← HQ.out] at hp8
                have HN8 : Hid (AR w _ (q + 1) (some ⟨b5, 0, none⟩) (q5 + 1) c5) := ⟨d, _, _, _, _, hp8, by rw [ho8.len, List.length_append, ← ha.cu.len]; show n + 1 ≤ q + 1; omega, by omega⟩
                clear hp8 ho8 hg8 hn8 k8 f8 hb8 ha hnew
                go_wp2
                all_goals first
                  | (refine ⟨⟨q + 1, some ⟨b5, 0, none⟩, (q5 + 1), c5, y, _, by omega, by go_num, rfl, rfl, rfl, by omega, by omega, HN8⟩, ?_⟩; first | (simp [intOf]; omega) | (simp [intOf]) | omega)
                  | (refine ⟨⟨q + 1, some ⟨b5, 0, none⟩, (q5 + 1), c5, (y + 1), _, by omega, by go_num, rfl, rfl, rfl, by omega, by omega, HN8⟩, ?_⟩; first | (simp [intOf]; omega) | (simp [intOf]) | omega)
                  | (refine ⟨⟨q + 1, some ⟨b5, 0, none⟩, (q5 + 1), c5, (y - 1), _, by omega, by go_num, rfl, rfl, rfl, by omega, by omega, HN8⟩, ?_⟩; first | (simp [intOf]; omega) | (simp [intOf]) | omega)
                  | (refine ⟨⟨q + 1, some ⟨b5, 0, none⟩, (q5 + 1), c5, 0, _, by omega, by go_num, rfl, rfl, rfl, by omega, by omega, HN8⟩, ?_⟩; first | (simp [intOf]; omega) | (simp [intOf]) | omega)
                  | (refine ⟨⟨q + 1, some ⟨b5, 0, none⟩, (q5 + 1), c5, 1, _, by omega, by go_num, rfl, rfl, rfl, by omega, by omega, HN8⟩, ?_⟩; first | (simp [intOf]; omega) | (simp [intOf]) | omega)
        · have hyb : (y == 0) = false := by simp [hy]
          have hyp : 0 < y := by omega
          go_wp2_with (first
            | (go_at_call 82; refine Hid.out ?_))
          all_goals
            refine Hid.mk_ ((blank_any ⟨kd, tx, an⟩).mono ?_)
            rintro e w3 ⟨⟨r, rfl, -⟩, hE3⟩
            have HR3 := Lib.hid (HR2.out.extn hE3)
            have hb3 := hbk.below hE3 hbk.lt
            clear hbk HRS HRG
            obtain ⟨g9, hg9⟩ : ∃ g9, g9 = wr.heap.size := ⟨_, rfl⟩
            rw [← hg9] at hb3 ⊢
            clear hg9
            cases r with
            | true =>
              go_wp2
              all_goals first
                | (refine ⟨⟨q + 1, A5, m5, c5, y, _, by omega, by go_num, rfl, rfl, rfl, by omega, by omega, HR3.out.mono (Nat.le_succ q)⟩, ?_⟩; first | (simp [intOf]; omega) | (simp [intOf]) | omega)
                | (refine ⟨⟨q + 1, A5, m5, c5, (y + 1), _, by omega, by go_num, rfl, rfl, rfl, by omega, by omega, HR3.out.mono (Nat.le_succ q)⟩, ?_⟩; first | (simp [intOf]; omega) | (simp [intOf]) | omega)
                | (refine ⟨⟨q + 1, A5, m5, c5, (y - 1), _, by omega, by go_num, rfl, rfl, rfl, by omega, by omega, HR3.out.mono (Nat.le_succ q)⟩, ?_⟩; first | (simp [intOf]; omega) | (simp [intOf]) | omega)
                | (refine ⟨⟨q + 1, A5, m5, c5, 0, _, by omega, by go_num, rfl, rfl, rfl, by omega, by omega, HR3.out.mono (Nat.le_succ q)⟩, ?_⟩; first | (simp [intOf]; omega) | (simp [intOf]) | omega)
                | (refine ⟨⟨q + 1, A5, m5, c5, 1, _, by omega, by go_num, rfl, rfl, rfl, by omega, by omega, HR3.out.mono (Nat.le_succ q)⟩, ?_⟩; first | (simp [intOf]; omega) | (simp [intOf]) | omega)
            | false =>
              obtain ⟨d, B, n, p, x, h3, hn, hm⟩ := HR3.out
              have hml := h3.own.len
              rw [List.length_append] at hml
              simp at hml
              obtain ⟨q5, hq5⟩ : ∃ q5, q5 = d.length := ⟨_, rfl⟩
              rw [← hq5] at hml
              obtain ⟨b5, cur, rfl, hbw, hbh, -, -, -, -⟩ := h3.own.row (by omega)
              subst hml
              have hl1 : q5 < (d ++ [(⟨B, n, p⟩ : SlH)]).length := by rw [List.length_append, hq5]; simp
              have hx0 : (d ++ [(⟨B, n, p⟩ : SlH)])[q5] = ⟨B, n, p⟩ := by simp [hq5]
              obtain ⟨b', off', hA', -, hcs⟩ := h3.own.sl.at_ (i := q5) (by omega) (by omega)
              simp only [Option.some.injEq, Addr.mk.injEq, and_true] at hA'
              obtain ⟨rfl, rfl⟩ := hA'
              have z0 := hcs q5 hl1 0 (by omega)
              simp only [hx0, shC, List.getElem_cons_zero, Nat.mul_one, Nat.add_zero, Nat.zero_add] at z0
              have hbB : Blk w3 b5 121 cur := hbh
              have f1 := hbB.frozen q5
              have hqi : (q5 : Int) < (q5 : Int) + 1 := by omega
              have hwq : IntKind.i64.wrap (q5 : Int) = (q5 : Int) := IntWalk.i64_in _ (by omega)
              have k0 := hb3.cell 0
              have k1 := hb3.cell 1
              have k2 := hb3.cell 2
              simp at k0 k1 k2
              have HQ := Lib.hid hq5
              have HA3 := Lib.hid h3
              clear hx0 hcs hl1 hq5 h3
              go_wp2
              all_goals
                have hnew : SlC tokC 3 (w3.alloc (Obj.cells #[.string kd, .string tx, .int .i64 (an : Int)] 161)).drew (some ⟨w3.heap.size, 0, none⟩) 1 [(⟨kd, tx, an⟩ : Tok)] := (SlC.new_ (cs := tokC) w3 [(⟨kd, tx, an⟩ : Tok)] tokC_len (by simp) _ rfl (0, 0) 1 rfl 161).ext (Ext.refl _).drew
                have hEa : Ext w3 (w3.alloc (Obj.cells #[.string kd, .string tx, .int .i64 (an : Int)] 161)).drew := ((Ext.refl _).alloc _).drew
                have ha := HA3.out.extn hEa
                have hsz := ha.ext.size_le
                have hb8f : ∀ W', (w3.alloc (Obj.cells #[.string kd, .string tx, .int .i64 (an : Int)] 161)).drew.grownBy W' (ob B) → Blk W' b5 121 cur := fun W' hg8 => (hbB.below hEa hbB.lt).grown hg8 (fun e => ob_types ha.own ha.cu (by decide) (show ob (some ⟨b5, 0, none⟩ : Option Addr) = some b5 from rfl) e.symm)
                have hcu : cur[q5]? = some (.slice B n p) := by rw [← hbB.cell]; exact z0
                have Y1 := laters z0
                have HB8 := Lib.hid hb8f
                have HCU := Lib.hid hcu
                clear hb8f hcu
                go_region_law
                  (first
                    | (refine step_appC einfo_tok rfl _ _ rfl ha.cu rfl hnew rfl (by show (n + 1) * 40 ≤ _; omega) hsz ?_
                       intro A8 m8 c8 w8 ho8 hg8 hn8
                       have hb8 := HB8.out w8 hg8
                       have f8 := hb8.frozen q5
                       have k8 : w8.cell? ⟨b5, q5, none⟩ = some (.slice B n p) := (by rw [hb8.cell]; exact HCU.out))
                    | fail)
                all_goals
                  have hp8 := ArC.tok ha rfl HTG.out ho8 hg8 hn8
                  rw [← HQ.out] at hp8
                  have HN8 : Hid (AR w _ (q + 1) (some ⟨b5, 0, none⟩) (q5 + 1) c5) := ⟨d, _, _, _, _, hp8, by rw [ho8.len, List.length_append, ← ha.cu.len]; show n + 1 ≤ q + 1; omega, by omega⟩
                  clear hp8 ho8 hg8 hn8 k8 f8 hb8 ha hnew
                  go_wp2
                  all_goals first
                    | (refine ⟨⟨q + 1, some ⟨b5, 0, none⟩, (q5 + 1), c5, y, _, by omega, by go_num, rfl, rfl, rfl, by omega, by omega, HN8⟩, ?_⟩; first | (simp [intOf]; omega) | (simp [intOf]) | omega)
                    | (refine ⟨⟨q + 1, some ⟨b5, 0, none⟩, (q5 + 1), c5, (y + 1), _, by omega, by go_num, rfl, rfl, rfl, by omega, by omega, HN8⟩, ?_⟩; first | (simp [intOf]; omega) | (simp [intOf]) | omega)
                    | (refine ⟨⟨q + 1, some ⟨b5, 0, none⟩, (q5 + 1), c5, (y - 1), _, by omega, by go_num, rfl, rfl, rfl, by omega, by omega, HN8⟩, ?_⟩; first | (simp [intOf]; omega) | (simp [intOf]) | omega)
                    | (refine ⟨⟨q + 1, some ⟨b5, 0, none⟩, (q5 + 1), c5, 0, _, by omega, by go_num, rfl, rfl, rfl, by omega, by omega, HN8⟩, ?_⟩; first | (simp [intOf]; omega) | (simp [intOf]) | omega)
                    | (refine ⟨⟨q + 1, some ⟨b5, 0, none⟩, (q5 + 1), c5, 1, _, by omega, by go_num, rfl, rfl, rfl, by omega, by omega, HN8⟩, ?_⟩; first | (simp [intOf]; omega) | (simp [intOf]) | omega)
      · have hi2 : ¬ (q : Int) < (M : Int) := by omega
        go_wp2
        go_ret
        exact ArR.none_ HR.out.ext
end
end Go.Proofs.YtgnchicipmomlaaGreatDoor

/- The program's extract: the calls that stand in the tokens. -/
namespace Go.Proofs.YtgnchicipmomlaaGreatDoor
open Go.RowKit Go.Maps
set_option maxRecDepth 100000
attribute [local go_sem] ext_refl_t ext_alloc_t ext_drew_t ext_drewN_t ext_alloc2_t ext_alloc3_t ext_alloc4_t ext_alloc5_t ext_alloc6_t ext_alloc7_t ext_alloc8_t ext_alloc1d_t ext_alloc2d_t ext_alloc3d_t ext_alloc4d_t
def cllV (x : Cll) : Value := .agg #[.string x.name, .int .i64 x.id, .int .i64 x.src]
theorem cllAt {wr : World} {b off q : Nat} {l : List Cll} (hcs : ∀ q (hq : q < l.length) j (hj : j < 3), wr.cell? ⟨b, off + (q * 3 + j), none⟩ = some ((cllC l[q])[j]'(by rw [cllC_len]; exact hj))) (hlt : q < l.length) :
    ∃ y, y ∈ l ∧ wr.cell? ⟨b, off + q * 3, none⟩ = some (.string y.name) ∧ wr.cell? ⟨b, off + q * 3 + 1, none⟩ = some (.int .i64 y.id) ∧ wr.cell? ⟨b, off + q * 3 + 2, none⟩ = some (.int .i64 y.src) := by
  have y0 := hcs q hlt 0 (by omega)
  have y1 := hcs q hlt 1 (by omega)
  have y2 := hcs q hlt 2 (by omega)
  simp only [cllC, List.getElem_cons_zero, List.getElem_cons_succ, Nat.add_zero, ← Nat.add_assoc] at y0 y1 y2
  exact ⟨l[q], List.getElem_mem hlt, y0, y1, y2⟩
section
variable {w : World}
set_option maxHeartbeats 1600000 in
theorem occ11_any (x : Cll) {g an : Nat} {kd tx : ByteArray} (hb : Blk w g 161 #[.string kd, .string tx, .int .i64 (an : Int)]) :
    Calls Tryz.prog 81 #[cllV x, .pointer (some ⟨g, 0, none⟩)] w fun e w' => RetB (fun _ => True) e ∧ Ext w w' := by
  unfold cllV
  have k0 := laters (hb.cell 0)
  have k1 := laters (hb.cell 1)
  simp at k0 k1
  have hE : Ext w (w.alloc (Obj.cells #[.string x.name, .int .i64 x.id, .int .i64 x.src] 87)) := (Ext.refl _).alloc _
  go_enter Tryz.func81, Tryz.ntmps81
  go_wp2
  all_goals
    go_ret
    exact ⟨⟨_, rfl, trivial⟩, hE⟩
set_option maxHeartbeats 3200000 in
theorem idxCall_any {A : Option Addr} {m c : Nat} {l : List Cll} {g an : Nat} {kd tx : ByteArray} (hs : SlC cllC 3 w A m l) (hb : Blk w g 161 #[.string kd, .string tx, .int .i64 (an : Int)]) :
    Calls Tryz.prog 80 #[.slice A m c, .func (.func 81) #[] #[.pointer (some ⟨g, 0, none⟩)]] w fun e w' => RetZs (fun z => -1 ≤ z ∧ z < (m : Int)) e ∧ Ext w w' := by
  have HL := Lib.hid hs.len
  have hle := hs.le
  go_enter Tryz.func80, Tryz.ntmps80
  go_wp2
  go_loopw [8] (fun i wr => ∃ q : Nat, q ≤ m ∧ i = .int .i64 q ∧ Ext w wr) (fun i _ => m - (intOf i).toNat)
  case atStart => exact ⟨0, Nat.zero_le _, rfl, Ext.refl _⟩
  case round =>
    obtain ⟨q, hq, rfl, hE⟩ := hrel
    by_cases hlt : q < m
    · obtain ⟨b, off, e0, hbl, hcs⟩ := (hs.ext hE).at_ hlt (by omega)
      subst e0
      have hlt1 : q < l.length := by rw [← HL.out]; exact hlt
      obtain ⟨x, hx, x0, x1, x2⟩ := cllAt hcs hlt1
      have hi1 : (q : Int) < (m : Int) := by omega
      go_wp2_with (first
        | (go_at_call 81; refine Hid.out ?_))
      refine Hid.mk_ ((occ11_any x (hb.below hE hb.lt)).mono ?_)
      rintro e w2 ⟨⟨r, rfl, -⟩, hE2⟩
      cases r with
      | true =>
        go_wp2
        go_ret
        exact ⟨⟨_, rfl, by omega, by omega⟩, hE.trans hE2⟩
      | false =>
        go_wp2
        all_goals first
          | (go_ret; exact ⟨⟨_, rfl, by omega, by omega⟩, hE⟩)
          | (refine ⟨⟨q + 1, by omega, by go_num, hE.trans hE2⟩, ?_⟩; first | (simp [intOf]; omega) | (simp [intOf]) | omega)
          | (go_roundw; (case rel => exact ⟨q + 1, by omega, by go_num, hE.trans hE2⟩); (case measure => first | (simp [intOf]; omega) | (simp [intOf])))
    · have hi1 : ¬ (q : Int) < (m : Int) := by omega
      go_wp2
      go_ret
      exact ⟨⟨_, rfl, by omega, by omega⟩, hE⟩
end
end Go.Proofs.YtgnchicipmomlaaGreatDoor
