/- Frames as rules of the walk: a cell that was there is as it was. -/
import Derived.Test.YtikbjaopcminaaaDoorBase
namespace Go.Proofs.YtikbjaopcminaaaDoor
open Go.RowKit
theorem ext_refl_t (w : World) : Ext w w = True := eq_true (Ext.refl w)
theorem ext_alloc_t {w w1 : World} (o : Obj) (h : Ext w w1) : Ext w (w1.alloc o) = True := eq_true (h.alloc o)
theorem ext_drew_t {w w1 : World} (h : Ext w w1) : Ext w w1.drew = True := eq_true h.drew
theorem ext_drewN_t {w w1 : World} (n : Nat) (h : Ext w w1) : Ext w (w1.drewN n) = True := eq_true (h.drewN n)
theorem ext_alloc2_t {w w1 : World} (o0 o1 : Obj) (h : Ext w w1) : Ext w ((w1.alloc o0).alloc o1) = True := eq_true ((h.alloc o0).alloc o1)
theorem ext_alloc2d_t {w w1 : World} (o0 o1 : Obj) (h : Ext w w1) : Ext w ((w1.alloc o0).alloc o1).drew = True := eq_true ((h.alloc o0).alloc o1).drew
theorem ext_alloc3_t {w w1 : World} (o0 o1 o2 : Obj) (h : Ext w w1) : Ext w (((w1.alloc o0).alloc o1).alloc o2) = True := eq_true (((h.alloc o0).alloc o1).alloc o2)
theorem ext_alloc3d_t {w w1 : World} (o0 o1 o2 : Obj) (h : Ext w w1) : Ext w (((w1.alloc o0).alloc o1).alloc o2).drew = True := eq_true (((h.alloc o0).alloc o1).alloc o2).drew
theorem ext_alloc4_t {w w1 : World} (o0 o1 o2 o3 : Obj) (h : Ext w w1) : Ext w ((((w1.alloc o0).alloc o1).alloc o2).alloc o3) = True := eq_true ((((h.alloc o0).alloc o1).alloc o2).alloc o3)
theorem ext_alloc4d_t {w w1 : World} (o0 o1 o2 o3 : Obj) (h : Ext w w1) : Ext w ((((w1.alloc o0).alloc o1).alloc o2).alloc o3).drew = True := eq_true ((((h.alloc o0).alloc o1).alloc o2).alloc o3).drew
theorem ext_alloc5_t {w w1 : World} (o0 o1 o2 o3 o4 : Obj) (h : Ext w w1) : Ext w (((((w1.alloc o0).alloc o1).alloc o2).alloc o3).alloc o4) = True := eq_true (((((h.alloc o0).alloc o1).alloc o2).alloc o3).alloc o4)
theorem ext_alloc6_t {w w1 : World} (o0 o1 o2 o3 o4 o5 : Obj) (h : Ext w w1) : Ext w ((((((w1.alloc o0).alloc o1).alloc o2).alloc o3).alloc o4).alloc o5) = True := eq_true ((((((h.alloc o0).alloc o1).alloc o2).alloc o3).alloc o4).alloc o5)
theorem ext_alloc7_t {w w1 : World} (o0 o1 o2 o3 o4 o5 o6 : Obj) (h : Ext w w1) : Ext w (((((((w1.alloc o0).alloc o1).alloc o2).alloc o3).alloc o4).alloc o5).alloc o6) = True := eq_true (((((((h.alloc o0).alloc o1).alloc o2).alloc o3).alloc o4).alloc o5).alloc o6)
theorem ext_alloc8_t {w w1 : World} (o0 o1 o2 o3 o4 o5 o6 o7 : Obj) (h : Ext w w1) : Ext w ((((((((w1.alloc o0).alloc o1).alloc o2).alloc o3).alloc o4).alloc o5).alloc o6).alloc o7) = True := eq_true ((((((((h.alloc o0).alloc o1).alloc o2).alloc o3).alloc o4).alloc o5).alloc o6).alloc o7)
theorem ext_alloc1d_t {w w1 : World} (o : Obj) (h : Ext w w1) : Ext w (w1.alloc o).drew = True := eq_true (h.alloc o).drew
/-- A cell that holds a value, now and later. -/
theorem laters {w : World} {a : Addr} {v : Value} (h : w.cell? a = some v) : ∀ W, Ext w W → W.cell? a = some v := fun _ hE => later hE h
end Go.Proofs.YtikbjaopcminaaaDoor
