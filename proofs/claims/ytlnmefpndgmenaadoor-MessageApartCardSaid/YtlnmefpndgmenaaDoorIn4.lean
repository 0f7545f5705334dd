/- The walks of octets.In's Ints, Texts. -/
import Derived.Test.YtlnmefpndgmenaaDoorIn3
namespace Go.Proofs.YtlnmefpndgmenaaDoor
open Go.RowKit

theorem info_int : (Tryd.prog.info? 3).map (fun i => (i.zero, i.size, i.bytes)) = some (some (.int .i64 0), 1, 8) := by kernel_rfl
theorem info_string : (Tryd.prog.info? 9).map (fun i => (i.zero, i.size, i.bytes)) = some (some (.string ByteArray.empty), 1, 16) := by kernel_rfl

/-- A list was read: its cells lie in new memory. -/
def ListP (el : TypeId) (b : Nat) (w : World) (vs : List Value) (x : List UInt8 × Int) (r : Ending) (w' : World) : Prop :=
  ∃ v, r = .returned v ∧ w'.ownsRow w.heap.size el 1 v vs.length vs ∧ InAt w' b x.1 x.2 ∧ Frm (One b) w w'
theorem ListP_mk {α : Type} {f : α → Value} {el : TypeId} {b : Nat} {w : World} {v v' : Value} {x : List α × List UInt8 × Int} {l : List α} {s : List UInt8} {e : Int} {w' : World} (hv : v' = v) (hx : x = (l, s, e))
    (hown : w'.ownsRow w.heap.size el 1 v l.length (l.map f)) (ha : InAt w' b s e) (hf : Frm (One b) w w') : ListP el b w (x.1.map f) x.2 (.returned v') w' := by
  subst hv hx
  exact ⟨_, rfl, by simpa using hown, ha, hf⟩

end Go.Proofs.YtlnmefpndgmenaaDoor
