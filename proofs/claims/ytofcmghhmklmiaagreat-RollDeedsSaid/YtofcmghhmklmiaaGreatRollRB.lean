/- Which blocks a roll's parts lie in; rows that become longer. -/
import Derived.Test.YtofcmghhmklmiaaGreatRollTT
namespace Go.Proofs.YtofcmghhmklmiaaGreat
open Go.RowKit
open Roll
/-- Which blocks a roll's parts lie in. -/
def RlB (mv cv : Value) (cs : List CV) (k : Nat) : Prop := mv.ownBlock = some k ∨ cv.ownBlock = some k ∨ ∃ p ∈ cs, (sv p).ownBlock = some k
theorem src_box {P : Program} {w : World} {tx e' : TypeId} (hk : P.underlying tx = some (.slice e')) {F K : Nat} {cs : List Value} (hl : cs.length = K) (h1 : ∀ u ∈ cs, u.oneCell' = true) (hc : ∀ j, w.cell? ⟨F, j, none⟩ = cs[j]?) : Src P K tx (.slice (some ⟨F, 0, none⟩) 1 1) 1 cs w :=
  Src.ofSlice w hk ⟨F, 0, none⟩ 1 1 cs (by omega) (fun j u hj => by rw [Addr.add_lit, Nat.zero_add, hc, hj]) h1
theorem rows_snoc {α : Type} (cells : α → List Value) (l : List α) (x : α) : rows cells l ++ cells x = rows cells (l ++ [x]) := by
  rw [rows_append, rows_cons]
  simp [rows]
theorem rlb_nil {k : Nat} (h : RlB (.slice none 0 0) (.slice none 0 0) [] k) : False := by
  rcases h with h | h | ⟨p, hp, -⟩
  · cases h
  · cases h
  · simp at hp
theorem info_rmem : (Tryz.prog.info? 48).map (fun i => (i.zero, i.size, i.bytes)) = some (some (.agg #[.string ByteArray.empty, .int .i64 0, .int .i64 0]), 3, 32) := by kernel_rfl
theorem info_rcls : (Tryz.prog.info? 57).map (fun i => (i.zero, i.size, i.bytes)) = some (some (.agg #[.string ByteArray.empty, .string ByteArray.empty, .slice none 0 0]), 3, 56) := by kernel_rfl
theorem take_snoc {α : Type} (l : List α) (k : Nat) (h : k < l.length) : l.take k ++ [l[k]] = l.take (k + 1) := (List.take_succ_eq_append_getElem h).symm
end Go.Proofs.YtofcmghhmklmiaaGreat
