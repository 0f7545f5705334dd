/- The walk of the octets laws' speaks. -/
import Derived.Test.YtlhcjoaeipgbeaaRef1
namespace Go.Proofs.Ytlhcjoaeipgbeaa
open Go.RowKit

/-- A new Out. -/
theorem OutAt_new (w : World) (T : TypeId) : OutAt (w.alloc (.cells #[.slice none 0 0, .bool false] T)) w.heap.size 0 (.slice none 0 0) [] false :=
  ⟨by rw [World.cell?_alloc_at _ _ _ _ rfl]; rfl, by rw [World.cell?_alloc_at _ _ _ _ rfl]; rfl, fun j => World.frozen?_alloc_at _ _ _ _ rfl, World.ownsRow_nil _ _ _ _, by simp [Value.ownBlock]⟩
/-- What an Out of the call's own leaves of what was there. -/
theorem OutPost.no {b o : Nat} {w0 w w' : World} {v v' : Value} {l : List UInt8} {bad : Bool} (h : OutPost b o w v l bad v' w') (hf : Frm No w0 w) (hb : w0.heap.size ≤ b) (hv : ∀ k, v.ownBlock = some k → w0.heap.size ≤ k) : Frm No w0 w' :=
  hf.trans h.frm (fun _ _ h => h) (fun i hi hs => by
    rcases hs with rfl | hs
    · omega
    · have := hv i hs; omega)
theorem OutPost.ge {b o : Nat} {w0 w w' : World} {v v' : Value} {l : List UInt8} {bad : Bool} (h : OutPost b o w v l bad v' w') (hf : w0.heap.size ≤ w.heap.size) (hv : ∀ k, v.ownBlock = some k → w0.heap.size ≤ k) : ∀ k, v'.ownBlock = some k → w0.heap.size ≤ k := by
  intro k hk
  rcases h.own with e | ⟨g, e, hg⟩
  · exact hv k (e ▸ hk)
  · rw [e] at hk; cases hk; omega

set_option maxRecDepth 100000 in
theorem octspeaks (w : World) : Calls Try.prog 20 #[] w fun e w' => e = .returned (.bool true) ∧ Frm No w w' := by
  have hd : Oct.dec [2, 1, 0, 120] = (256, 3, 0) := by decide
  have ht : Oct.text [97] = [1, 1, 97] := by decide
  have hp : Oct.enc (-1) = [129, 1] := by decide
  have HD := hid hd
  have HT := hid ht
  have HP := hid hp
  clear hd ht hp
  go_enter Try.func20, Try.ntmps20
  go_wp2_with fail
  refine (get_at HD.out _ (by decide)).mono ?_
  rintro e w1 ⟨rfl, hf1⟩
  go_wp2_with fail
  refine (out_text _ 0 _ [] [97] false _ (OutAt_new w1 56) (by decide) (by decide)).mono ?_
  rintro e w2 ⟨rfl, v2, hq⟩
  rw [HT.out] at hq
  go_wp2_with fail
  refine (out_bytes _ 0 _ _ _ _ hq.at_).mono ?_
  rintro e w3 ⟨rfl, rfl⟩
  go_wp2_with fail
  refine (put_any _ _).mono ?_
  rintro e w4 ⟨rfl, hf4⟩
  rw [HP.out]
  go_wp2_with fail
  go_ret
  exact ⟨rfl, (OutPost.no hq (hf1.alloc _) hf1.size (fun k h => by cases h)).thenNo hf4⟩
end Go.Proofs.Ytlhcjoaeipgbeaa
