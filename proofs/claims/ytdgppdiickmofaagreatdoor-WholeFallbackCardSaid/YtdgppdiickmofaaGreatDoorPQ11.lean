/- The program's tags: strings.Join, Split, ReplaceAll. -/
import Derived.Test.YtdgppdiickmofaaGreatDoorPQ09
import Derived.Test.YtdgppdiickmofaaGreatDoorPQ10
import Derived.Shelf.Strings.OnBuilder
import Derived.Shelf.Strings.Split
import Derived.Shelf.Strings.Replace
namespace Go.Proofs.YtdgppdiickmofaaGreatDoor
open Go.RowKit Go.Shelf
set_option maxRecDepth 100000
theorem extraJn : Builder.Extra Tryz.prog Tryz.laysJoin_ren where
  sizeBuilder := by kernel_rfl
  liesBuilder := by kernel_rfl
  t5 := by kernel_rfl
  a5 := fun _ => by kernel_rfl
  z5 := fun _ => by kernel_rfl
  v5 := fun _ => by kernel_rfl
  infoByte := by kernel_rfl
  cellsByte := by kernel_rfl
  sizeByte := by kernel_rfl
  neB5 := by decide
theorem extraRl : Builder.Extra Tryz.prog Tryz.laysRepl_ren where
  sizeBuilder := by kernel_rfl
  liesBuilder := by kernel_rfl
  t5 := by kernel_rfl
  a5 := fun _ => by kernel_rfl
  z5 := fun _ => by kernel_rfl
  v5 := fun _ => by kernel_rfl
  infoByte := by kernel_rfl
  cellsByte := by kernel_rfl
  sizeByte := by kernel_rfl
  neB5 := by decide
/-- internal/bytealg.MaxLen holds some number. -/
def MX (w : World) : Prop := ∃ m, w.cell? ⟨0, 0, none⟩ = some (.int .i64 m)
theorem MX.ext {w w' : World} (h : MX w) (hE : Ext w w') : MX w' := by
  obtain ⟨m, hm⟩ := h
  exact ⟨m, later hE hm⟩
section
variable {w : World}
theorem strs_cells {A : Option Addr} {m : Nat} {l : List (List UInt8)} (hs : SlC strF 1 w A m (l.map str)) (hm : 0 < m) : ∃ b off, A = some ⟨b, off, none⟩ ∧ b < w.heap.size ∧ ∀ (j : Nat) x, (l.map str)[j]? = some x → w.cell? ⟨b, off + j, none⟩ = some (.string x) := by
  obtain ⟨b, off, e, hb, hc⟩ := hs.at_ (i := 0) hm (by omega)
  refine ⟨b, off, e, hb, fun j x hx => ?_⟩
  obtain ⟨hj, hx⟩ := List.getElem?_eq_some_iff.1 hx
  have h := hc j hj 0 (by omega)
  simp only [strF, List.getElem_cons_zero, Nat.mul_one, Nat.add_zero] at h
  rw [h, hx]
theorem join_any {A : Option Addr} {m c : Nat} {l : List (List UInt8)} (hs : SlC strF 1 w A m (l.map str)) (hc : m ≤ c) (sep : List UInt8) (hb : (Lib.join l sep).length ≤ 140737488355328) :
    Calls Tryz.prog 144 #[.slice A m c, .string (str sep)] w fun e w' => e = .returned (.string (str (Lib.join l sep))) ∧ Ext w w' := by
  have hl := hs.len
  rw [List.length_map] at hl
  rcases Nat.eq_zero_or_pos m with h0 | h0
  · subst h0
    have : l = [] := List.eq_nil_of_length_eq_zero hl.symm
    subst this
    refine (Any.strings_Join_none Tryz.laysJoin extraJn A c (str sep) w).mono fun e w' ⟨he, hw⟩ => ⟨he, ?_⟩
    rw [hw]
    exact Ext.refl _
  · obtain ⟨b, off, rfl, hbl, hcs⟩ := strs_cells hs h0
    have e1 : (l.map str).map (fun x => x.data.toList) = l := by
      rw [List.map_map]
      exact (List.map_congr_left fun x _ => bys_str x).trans (List.map_id l)
    have e2 : (str sep).data.toList = sep := bys_str sep
    have h := Any.strings_Join Tryz.laysJoin extraJn b off c (l.map str) (str sep) w hcs hbl (by rw [List.length_map]; have := hs.le; omega) (by rw [List.length_map]; omega) (by rw [e1, e2]; exact hb)
    rw [e1, e2, List.length_map, ← hl] at h
    exact h
theorem flat_str : ∀ l : List ByteArray, l.flatMap strF = l.map Value.string
  | [] => rfl
  | a :: r => by rw [List.flatMap_cons, flat_str r]; rfl
theorem info9 : (Tryz.prog.info? 9).map (fun i => (i.zero, i.size, i.bytes)) = some (some (.string ByteArray.empty), 1, 16) := by kernel_rfl
theorem split_any (s sep : List UInt8) (hM : MX w) (hs : s.length ≤ 4000000000) (h1 : 1 ≤ sep.length) :
    Calls Tryz.prog 87 #[.string (str s), .string (str sep)] w fun e w' => (∃ A m, e = .returned (.slice A m m) ∧ SlC strF 1 w' A m ((Lib.split s sep).map str)) ∧ Ext w w' := by
  obtain ⟨m, hm⟩ := hM
  refine (Any.strings_Split Tryz.laysSplit info9 (str s) (str sep) m w (by rw [str_size]; omega) hm (by rw [str_size]; exact h1)).mono fun e w' ⟨he, hw⟩ => ?_
  have hd := Lib.splitB_data (str sep) 0 (Lib.countB (str s) (str sep)) (str s)
  have hlen := Lib.splitB_all (str sep) (by rw [str_size]; exact h1) 0 _ (str s) rfl
  have hcl := Lib.countB_le (str sep) (by rw [str_size]; exact h1) (str s).size (str s) (Nat.le_refl _)
  rw [str_size] at hcl
  have hE : Lib.splitB (str sep) 0 (Lib.countB (str s) (str sep)) (str s) = (Lib.split s sep).map str := by
    have e2 : Lib.splitB (str sep) 0 (Lib.countB (str s) (str sep)) (str s) = ((Lib.splitB (str sep) 0 (Lib.countB (str s) (str sep)) (str s)).map bys).map str := by
      rw [List.map_map]
      exact (List.map_id _).symm.trans (List.map_congr_left fun x _ => (str_bys x).symm)
    rw [e2]
    congr 1
  rw [hE] at hw hlen
  refine ⟨⟨_, _, he, ?_⟩, by rw [hw]; exact (Ext.refl w).alloc _⟩
  rw [hw]
  refine SlC.new_ (cs := strF) w _ (fun _ => rfl) (by rw [hlen]; omega) _ ?_ (0, 0) _ hlen.symm _
  rw [flat_str]
theorem repl_any (s old new : List UInt8) (hM : MX w) (hs : s.length ≤ 1000000) (h1 : 1 ≤ old.length) (h2 : new.length ≤ 1000) :
    Calls Tryz.prog 88 #[.string (str s), .string (str old), .string (str new)] w fun e w' => e = .returned (.string (str (Lib.replaceAll s old new))) ∧ Ext w w' := by
  obtain ⟨m, hm⟩ := hM
  have hcl := Lib.countB_le (str old) (by rw [str_size]; exact h1) (str s).size (str s) (Nat.le_refl _)
  rw [str_size] at hcl
  have h := Any.strings_ReplaceAll Tryz.laysRepl extraRl (str s) (str old) (str new) m w (by rw [str_size]; omega) hm (by rw [str_size]; exact h1) (by
    rw [str_size, str_size]
    have := Nat.mul_le_mul hcl h2
    omega)
  have e1 : (str s).data.toList = s := bys_str s
  have e2 : (str old).data.toList = old := bys_str old
  have e3 : (str new).data.toList = new := bys_str new
  rw [e1, e2, e3] at h
  exact h
end
end Go.Proofs.YtdgppdiickmofaaGreatDoor
