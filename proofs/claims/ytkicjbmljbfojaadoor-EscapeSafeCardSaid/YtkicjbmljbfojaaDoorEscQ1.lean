/- The reference's Point, One, backslash. -/
import Derived.Test.YtkicjbmljbfojaaDoorEscQ
namespace Go.Proofs.YtkicjbmljbfojaaDoor
open Go.RowKit Go.Shelf
set_option maxRecDepth 100000

attribute [local go_sem] ext_refl_t ext_alloc_t ext_drew_t ext_drewN_t ext_alloc2_t ext_alloc3_t ext_alloc4_t ext_alloc5_t ext_alloc6_t ext_alloc7_t ext_alloc8_t ext_alloc1d_t ext_alloc2d_t ext_alloc3d_t ext_alloc4d_t
section
variable {w : World}
theorem rpoint_any (n : Nat) : Calls Tryd.prog 42 #[.int .i64 (n : Int)] w fun e w' => e = .returned (.bool (isPt n)) ∧ w' = w := by
  have h0 : (0 : Int) ≤ (n : Int) := by omega
  rcases isPt_cases n with ⟨a, h⟩ | ⟨a, b, h⟩ | ⟨a, b, h⟩ | ⟨a, h⟩
  · have t1 : (n : Int) ≤ 1114111 := by omega
    have t2 : (n : Int) < 55296 := by omega
    rw [h]
    go_enter Tryd.func42, Tryd.ntmps42
    go_wp2
    go_ret
    exact ⟨rfl, rfl⟩
  · have t1 : (n : Int) ≤ 1114111 := by omega
    have t2 : ¬ (n : Int) < 55296 := by omega
    have t3 : (57343 : Int) < (n : Int) := by omega
    rw [h]
    go_enter Tryd.func42, Tryd.ntmps42
    go_wp2
    go_ret
    exact ⟨rfl, rfl⟩
  · have t1 : (n : Int) ≤ 1114111 := by omega
    have t2 : ¬ (n : Int) < 55296 := by omega
    have t3 : ¬ (57343 : Int) < (n : Int) := by omega
    rw [h]
    go_enter Tryd.func42, Tryd.ntmps42
    go_wp2
    go_ret
    exact ⟨rfl, rfl⟩
  · have t1 : ¬ (n : Int) ≤ 1114111 := by omega
    rw [h]
    go_enter Tryd.func42, Tryd.ntmps42
    go_wp2
    go_ret
    exact ⟨rfl, rfl⟩
/-- string([]byte{..}) of new bytes. -/
theorem convN (W : World) (l : List UInt8) (cs : Array Value) (hcs : cs = (l.map bv).toArray) (n : Nat) (hn : n = l.length) (hl : l.length ≤ 100) : (convert 34 9 (.slice (some ⟨W.heap.size, 0, none⟩) n n)).run Tryd.prog (W.alloc (.cells cs 5)) = .ok (.string (str l)) (W.alloc (.cells cs 5)) :=
  conv_str (OsB.new_ W W.heap.size (Nat.le_refl _) l (by omega) cs hcs n hn).sl n
set_option maxHeartbeats 1600000 in
theorem one_pt (n : Nat) (hn : n ≤ 1114111) : Calls Tryd.prog 43 #[.int .i64 (n : Int)] w fun e w' => e = .returned (.string (str (encOne n))) ∧ Ext w w' := by
  have h0 : (0 : Int) ≤ (n : Int) := by omega
  have hm : (n : Int) ≤ 1114111 := by omega
  by_cases h1 : n < 128
  · have h1' : (n : Int) < 128 := by omega
    have hs : encOne n = [by_ n] := by unfold encOne; rw [if_pos h1]
    have hcv : ∀ W : World, (convert 34 9 (.slice (some ⟨W.heap.size, 0, none⟩) 1 1)).run Tryd.prog (W.alloc (.cells #[.int .u8 (n : Int)] 5)) = .ok (.string (str (encOne n))) (W.alloc (.cells #[.int .u8 (n : Int)] 5)) := fun W => convN W _ _ (by rw [hs]; simp only [List.map_cons, List.map_nil]; rw [by_nat _ (by omega)]) 1 (by rw [hs]; rfl) (by rw [hs]; simp)
    clear hs h1
    go_enter Tryd.func43, Tryd.ntmps43
    go_wp2
    go_ret
    exact ⟨rfl, (Ext.refl _).alloc _⟩
  have h1' : ¬ (n : Int) < 128 := by omega
  by_cases h2 : n < 2048
  · have h2' : (n : Int) < 2048 := by omega
    have hs : encOne n = [by_ (192 + n / 64), by_ (128 + n % 64)] := by unfold encOne; rw [if_neg h1, if_pos h2]
    have hcv : ∀ W : World, (convert 34 9 (.slice (some ⟨W.heap.size, 0, none⟩) 2 2)).run Tryd.prog (W.alloc (.cells #[.int .u8 (192 + (n : Int) / 64), .int .u8 (128 + (n : Int) % 64)] 5)) = .ok (.string (str (encOne n))) (W.alloc (.cells #[.int .u8 (192 + (n : Int) / 64), .int .u8 (128 + (n : Int) % 64)] 5)) := fun W => convN W _ _ (by rw [hs]; simp only [List.map_cons, List.map_nil]; rw [by_nat _ (by omega), by_nat _ (by omega), show ((192 + n / 64 : Nat) : Int) = 192 + (n : Int) / 64 by omega, show ((128 + n % 64 : Nat) : Int) = 128 + (n : Int) % 64 by omega]) 2 (by rw [hs]; rfl) (by rw [hs]; simp)
    clear hs h1 h2
    go_enter Tryd.func43, Tryd.ntmps43
    go_wp2
    go_ret
    exact ⟨rfl, (Ext.refl _).alloc _⟩
  have h2' : ¬ (n : Int) < 2048 := by omega
  by_cases h3 : n < 65536
  · have h3' : (n : Int) < 65536 := by omega
    have hs : encOne n = [by_ (224 + n / 4096), by_ (128 + n / 64 % 64), by_ (128 + n % 64)] := by unfold encOne; rw [if_neg h1, if_neg h2, if_pos h3]
    have hcv : ∀ W : World, (convert 34 9 (.slice (some ⟨W.heap.size, 0, none⟩) 3 3)).run Tryd.prog (W.alloc (.cells #[.int .u8 (224 + (n : Int) / 4096), .int .u8 (128 + (n : Int) / 64 % 64), .int .u8 (128 + (n : Int) % 64)] 5)) = .ok (.string (str (encOne n))) (W.alloc (.cells #[.int .u8 (224 + (n : Int) / 4096), .int .u8 (128 + (n : Int) / 64 % 64), .int .u8 (128 + (n : Int) % 64)] 5)) := fun W => convN W _ _ (by rw [hs]; simp only [List.map_cons, List.map_nil]; rw [by_nat _ (by omega), by_nat _ (by omega), by_nat _ (by omega), show ((224 + n / 4096 : Nat) : Int) = 224 + (n : Int) / 4096 by omega, show ((128 + n / 64 % 64 : Nat) : Int) = 128 + (n : Int) / 64 % 64 by omega, show ((128 + n % 64 : Nat) : Int) = 128 + (n : Int) % 64 by omega]) 3 (by rw [hs]; rfl) (by rw [hs]; simp)
    clear hs h1 h2 h3
    go_enter Tryd.func43, Tryd.ntmps43
    go_wp2
    go_ret
    exact ⟨rfl, (Ext.refl _).alloc _⟩
  have h3' : ¬ (n : Int) < 65536 := by omega
  have hs : encOne n = [by_ (240 + n / 262144), by_ (128 + n / 4096 % 64), by_ (128 + n / 64 % 64), by_ (128 + n % 64)] := by unfold encOne; rw [if_neg h1, if_neg h2, if_neg h3]
  have hcv : ∀ W : World, (convert 34 9 (.slice (some ⟨W.heap.size, 0, none⟩) 4 4)).run Tryd.prog (W.alloc (.cells #[.int .u8 (240 + (n : Int) / 262144), .int .u8 (128 + (n : Int) / 4096 % 64), .int .u8 (128 + (n : Int) / 64 % 64), .int .u8 (128 + (n : Int) % 64)] 5)) = .ok (.string (str (encOne n))) (W.alloc (.cells #[.int .u8 (240 + (n : Int) / 262144), .int .u8 (128 + (n : Int) / 4096 % 64), .int .u8 (128 + (n : Int) / 64 % 64), .int .u8 (128 + (n : Int) % 64)] 5)) := fun W => convN W _ _ (by rw [hs]; simp only [List.map_cons, List.map_nil]; rw [by_nat _ (by omega), by_nat _ (by omega), by_nat _ (by omega), by_nat _ (by omega), show ((240 + n / 262144 : Nat) : Int) = 240 + (n : Int) / 262144 by omega, show ((128 + n / 4096 % 64 : Nat) : Int) = 128 + (n : Int) / 4096 % 64 by omega, show ((128 + n / 64 % 64 : Nat) : Int) = 128 + (n : Int) / 64 % 64 by omega, show ((128 + n % 64 : Nat) : Int) = 128 + (n : Int) % 64 by omega]) 4 (by rw [hs]; rfl) (by rw [hs]; simp)
  clear hs h1 h2 h3
  go_enter Tryd.func43, Tryd.ntmps43
  go_wp2
  go_ret
  exact ⟨rfl, (Ext.refl _).alloc _⟩
end

end Go.Proofs.YtkicjbmljbfojaaDoor
