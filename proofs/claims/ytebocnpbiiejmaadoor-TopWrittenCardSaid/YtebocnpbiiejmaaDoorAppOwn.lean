/- Appending within a region that draws its order; an empty row of the call's own. -/
import Derived.Test.YtebocnpbiiejmaaDoorLib
import Derived.Deep.RegionLaw
namespace Go.Proofs.YtebocnpbiiejmaaDoor
open Go.RowKit
/-- append to a row of the call's own, as one step of a region that draws. -/
theorem step_append_own {P : Program} {ops : Array Oper} {o : Oper} {a : Act} {W : World} {K : Act → World → Prop} {Q : Exit → Act → World → Prop} {E : Prop}
    (hg : o.guard = none) (s x : Operand) (t tx : TypeId) (ho : o.op = .call { callee := .builtin .append, args := #[s, x], argTypes := #[t, tx] })
    (base : Nat) (e : TypeId) (i : TypeInfo) (z : Value) (size bytes : Nat) (ht : P.underlying t = some (.slice e)) (hi : P.info? e = some i) (hz : i.zero = some z)
    (hsize : i.size = size) (hby : i.bytes = bytes) (hzs : z.cells.size = size)
    (v : Value) (n : Nat) (xs : List Value) (hs : a.eval s = v) (hown : W.ownsRow base e size v n xs)
    (xv : Value) (m : Nat) (news : List Value) (hx : a.eval x = xv) (hsrc : Src P size tx xv m news W)
    (h63 : n + m ≤ maxLen) (hbytes : (n + m) * bytes ≤ 140737488355328) (hbase : base ≤ W.heap.size)
    (hK : ∀ v' w', w'.ownsRow base e size v' (n + m) (xs ++ news) → Frm (Own v) W w' → (v'.ownBlock = v.ownBlock ∨ ∃ k, v'.ownBlock = some k ∧ W.heap.size ≤ k) → K (a.put o.dst v') w') :
    if Region.wanted o (yielded ops a.tmps) = true then Oper.wp P o a W K Q else E := by
  have hw : Region.wanted o (yielded ops a.tmps) = true := by simp [Region.wanted, hg]
  rw [if_pos hw]
  obtain ⟨v', w', hr, h2, h3, h4⟩ := run_append_own_src (P := P) W base t tx o.type e i z size bytes ht hi hz hsize hby hzs v n xs hown xv m news hsrc h63 hbytes hbase
  unfold Oper.wp
  simp [execOp, ho, resolve, invoke, builtin, hs, hx, hr, Result.andThen]
  exact hK _ _ h2 (Frm.ofGrown h3 (fun k e => e)) (by
    rcases h4 with h4 | h4
    · exact Or.inl h4
    · exact Or.inr ⟨_, h4, Nat.le_refl _⟩)

/-- A row that was made empty. -/
theorem own_empty {w : World} {base : Nat} {size : Nat} (T : TypeId) (hb : base ≤ w.heap.size) : (w.alloc (.cells #[] T)).ownsRow base T size (.slice (some ⟨w.heap.size, 0, none⟩) 0 0) 0 [] :=
  World.ownsRow_made w #[] 0 hb (Nat.zero_le _) (by simp)
/-! Which world is it? (Tried with 'with_reducible': fails at once where it is another.) -/
section
variable {P : Program} {o : Oper} {a : Act} {w : World} {K : Act → World → Prop} {Q : Exit → Act → World → Prop} {E c : Prop} [Decidable c]
theorem world_a {T : TypeId} (h : if c then Oper.wp P o a (w.alloc (.cells #[] T)).drew K Q else E) : if c then Oper.wp P o a (w.alloc (.cells #[] T)).drew K Q else E := h
theorem world_b {T : TypeId} {x : Obj} (h : if c then Oper.wp P o a ((w.alloc (.cells #[] T)).alloc x).drew K Q else E) : if c then Oper.wp P o a ((w.alloc (.cells #[] T)).alloc x).drew K Q else E := h
theorem world_c {T : TypeId} {x : Obj} (h : if c then Oper.wp P o a ((w.alloc x).alloc (.cells #[] T)).drew K Q else E) : if c then Oper.wp P o a ((w.alloc x).alloc (.cells #[] T)).drew K Q else E := h
end
end Go.Proofs.YtebocnpbiiejmaaDoor
