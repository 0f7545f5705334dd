/- A network and the reference's list of its frames, side by side. -/
import Derived.Test.YthbacebkidggdaaNet5
import Derived.Test.YthbacebkidggdaaNetSpeaks
namespace Go.Proofs.Ythbacebkidggdaa
open Go.RowKit

/-- At block B lies a net of the frames fs; u is a row of the frames gs. All of it is the call's own. -/
structure Two (w wr : World) (B : Nat) (v : Value) (fs : List Fr) (u : Value) (gs : List Fr) : Prop where
  net : NetAt wr B v fs
  row : wr.ownsRow w.heap.size 30 4 u gs.length (framesV gs)
  ub : u.ownBlock ≠ some B
  uv : ∀ g, u.ownBlock = some g → v.ownBlock ≠ some g
  vge : ∀ q, v.ownBlock = some q → w.heap.size ≤ q
  hB : w.heap.size ≤ B
  frm : Frm No w wr
theorem Two.no {w wr w' : World} {B : Nat} {v u : Value} {fs gs : List Fr} (h : Two w wr B v fs u gs) (hf : Frm No wr w') : Two w w' B v fs u gs :=
  ⟨h.net.frm hf (fun h => h) (fun _ _ h => h), hf.row h.row (fun _ _ h => h), h.ub, h.uv, h.vge, h.hB, h.frm.thenNo hf⟩
theorem Two.post {w wr w' : World} {B : Nat} {v v' u : Value} {fs fs' gs : List Fr} (h : Two w wr B v fs u gs) (n : NetPost B wr v fs' v' w') : Two w w' B v' fs' u gs := by
  refine ⟨n.at_, n.frm.row h.row (fun g hg hs => ?_), h.ub, fun g hg hv => ?_, n.ge h.frm.size h.vge, h.hB, n.no h.frm h.hB h.vge⟩
  · rcases hs with rfl | hs
    · exact h.ub hg
    · exact h.uv g hg hs
  · rcases n.own with e | ⟨k, e, hk⟩
    · exact h.uv g hg (e ▸ hv)
    · rw [e] at hv; cases hv
      have := (h.row.lt _ hg).2
      omega
/-- The row grows, or is made anew. -/
theorem Two.grow {w wr w' : World} {B : Nat} {v u u' : Value} {fs gs gs' : List Fr} (h : Two w wr B v fs u gs) (hr : w'.ownsRow w.heap.size 30 4 u' gs'.length (framesV gs')) (hf : Frm (Own u) wr w') (hu : u'.ownBlock = u.ownBlock ∨ ∃ k, u'.ownBlock = some k ∧ wr.heap.size ≤ k) : Two w w' B v fs u' gs' := by
  have hB : B < wr.heap.size := World.block_lt_of_cell? wr _ h.net.c0
  refine ⟨h.net.frm hf h.ub (fun k hk e => h.uv k e hk), hr, ?_, fun g hg hv => ?_, h.vge, h.hB, h.frm.trans hf (fun _ _ h => h) (fun i hi e => ?_)⟩
  · rcases hu with e | ⟨k, e, hk⟩
    · rw [e]; exact h.ub
    · rw [e]; simp; omega
  · rcases hu with e | ⟨k, e, hk⟩
    · exact h.uv g (e ▸ hg) hv
    · rw [e] at hg; cases hg
      have := (h.net.row.lt _ hv).2
      omega
  · have := (h.row.lt i e).1
    omega
/-- Another row of the same call's own, made of new memory alone. -/
theorem Two.anew {w wr w' : World} {B : Nat} {v u u' : Value} {fs gs gs' : List Fr} (h : Two w wr B v fs u gs) (hf : Frm No wr w') (hr : w'.ownsRow w.heap.size 30 4 u' gs'.length (framesV gs')) (hu : ∀ k, u'.ownBlock = some k → wr.heap.size ≤ k) : Two w w' B v fs u' gs' := by
  have hB : B < wr.heap.size := World.block_lt_of_cell? wr _ h.net.c0
  refine ⟨h.net.frm hf (fun h => h) (fun _ _ h => h), hr, fun e => ?_, fun g hg hv => ?_, h.vge, h.hB, h.frm.thenNo hf⟩
  · have := hu _ e; omega
  · have := hu g hg
    have := (h.net.row.lt _ hv).2
    omega
end Go.Proofs.Ythbacebkidggdaa
