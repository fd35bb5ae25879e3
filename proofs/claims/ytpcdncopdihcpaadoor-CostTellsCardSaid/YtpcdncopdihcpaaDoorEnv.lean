/- What the library's own variables hold, as its text lays them: the part of the world that the contracts lean on; and small words of mine. -/
import Derived.Test.YtpcdncopdihcpaaDoorProg
import Derived.Shelf.Spec.TrailingZeros
import Derived.Lib.LaidTab
import Derived.Lib.AtoiErrMem
import Derived.Lib.ItoaMem
import Derived.WalkSmall
import Derived.Below
import Derived.WalkKit
namespace Go.Proofs.YtpcdncopdihcpaaDoor
open Go.RowKit

theorem drewN_below {B : Nat} {a w : World} (h : Below B a w) (n : Nat) : Below B a (w.drewN n) := ⟨h.os, h.tape, h.output, h.size, h.block⟩

structure Env (w : World) : Prop where
  tz : ∀ j, j < Lib.deBruijn64tab.length → w.cell? ⟨1, j, none⟩ = some (.int .u8 (Lib.deBruijn64tab.getD j 0))
  pow : Lib.TabIs Tryd.prog w "internal/strconv.uint64pow10" .u64 Lib.pow10Tab
  pg : 5 < w.heap.size
  es : ∃ tp p, w.cell? ⟨3, 0, none⟩ = some (.iface tp p)
  er : ∃ tp p, w.cell? ⟨4, 0, none⟩ = some (.iface tp p)
  ml : ∃ m, w.cell? ⟨2, 0, none⟩ = some (.int .i64 m)

theorem gPow : Tryd.prog.globalNamed "internal/strconv.uint64pow10" = some 5 := by kernel_rfl

theorem cell_up {B : Nat} {w w' : World} {a : Addr} {v : Value} (hb : Below B w w') (hB : w.heap.size ≤ B) (h : w.cell? a = some v) : w'.cell? a = some v :=
  (hb.cell (Nat.lt_of_lt_of_le (Lib.lt_of_cell h) hB)).trans h

theorem Env.below {w w' : World} (E : Env w) (hb : Below w.heap.size w w') : Env w' where
  tz := fun j hj => cell_up hb (Nat.le_refl _) (E.tz j hj)
  pow := var?_below hb gPow E.pg E.pow
  pg := Nat.lt_of_lt_of_le E.pg hb.size
  es := let ⟨tp, p, h⟩ := E.es; ⟨tp, p, cell_up hb (Nat.le_refl _) h⟩
  er := let ⟨tp, p, h⟩ := E.er; ⟨tp, p, cell_up hb (Nat.le_refl _) h⟩
  ml := let ⟨m, h⟩ := E.ml; ⟨m, cell_up hb (Nat.le_refl _) h⟩

theorem below_trans {w w1 w2 : World} (h : Below w.heap.size w w1) (k : Below w1.heap.size w1 w2) : Below w.heap.size w w2 := h.trans (k.mono h.size)
theorem below_alloc' (w : World) (o : Obj) : Below w.heap.size w (w.alloc o) := (Below.refl _ _).alloc (Nat.le_refl _) o
theorem below_drewN' (w : World) (n : Nat) : Below w.heap.size w (w.drewN n) := drewN_below (Below.refl _ _) n
end Go.Proofs.YtpcdncopdihcpaaDoor
