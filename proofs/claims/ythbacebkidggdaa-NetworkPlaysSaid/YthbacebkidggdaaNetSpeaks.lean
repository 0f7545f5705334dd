/- The walk of the network's speaks. -/
import Derived.Test.YthbacebkidggdaaNet3
namespace Go.Proofs.Ythbacebkidggdaa
open Go.RowKit

theorem NetAt_new (w : World) (T : TypeId) : NetAt (w.alloc (.cells #[.slice none 0 0] T)) w.heap.size (.slice none 0 0) [] :=
  ⟨by rw [World.cell?_alloc_at _ _ _ _ rfl]; rfl, fun j => World.frozen?_alloc_at _ _ _ _ rfl, World.ownsRow_nil _ _ _ _, by simp [Value.ownBlock]⟩

theorem NetPost.box {b : Nat} {w3 w4 : World} {v3 v4 : Value} {fs fs' : List Fr} {cs : Array Value} {T : TypeId} (h : NetAt w3 b v3 fs) (n : NetPost b (w3.alloc (.cells cs T)) v3 fs' v4 w4) :
    (∀ j, w4.cell? ⟨w3.heap.size, j, none⟩ = cs[j]?) ∧ (∀ j, w4.frozen? ⟨w3.heap.size, j, none⟩ = false) ∧ v4.ownBlock ≠ some w3.heap.size ∧ b ≠ w3.heap.size ∧ w3.heap.size < w4.heap.size := by
  have hb : b < w3.heap.size := World.block_lt_of_cell? w3 _ h.c0
  have hv : v3.ownBlock ≠ some w3.heap.size := fun e => absurd (h.row.lt _ e).2 (Nat.lt_irrefl _)
  have hs : ¬ NetS b v3 w3.heap.size := by
    rintro (e | e)
    · omega
    · exact hv e
  have hz : (w3.alloc (.cells cs T)).heap.size = w3.heap.size + 1 := by simp
  have hlt : w3.heap.size < (w3.alloc (.cells cs T)).heap.size := by rw [hz]; exact Nat.lt_succ_self _
  refine ⟨fun j => (n.frm.cell (p := ⟨w3.heap.size, j, none⟩) hlt hs).trans (World.cell?_alloc_at _ _ _ _ rfl), fun j => (n.frm.frozen (p := ⟨w3.heap.size, j, none⟩) hlt hs).trans (World.frozen?_alloc_at _ _ _ _ rfl), ?_, by omega, Nat.lt_of_lt_of_le hlt n.frm.size⟩
  rcases n.own with e | ⟨k, e, hk⟩
  · rw [e]; exact hv
  · rw [e]; rw [hz] at hk; simp; omega
def fa : Fr := ⟨0, 1, [97], false⟩
def fb : Fr := ⟨0, 1, [98], false⟩
set_option maxRecDepth 100000 in
set_option maxHeartbeats 1000000 in
theorem netspeaks (w : World) : Calls Try.prog 4 #[] w fun e w' => e = .returned (.bool true) ∧ Frm No w w' := by
  have h0 := NetAt_new w 26
  obtain ⟨B, hB⟩ : ∃ B, w.heap.size = B := ⟨_, rfl⟩
  rw [hB] at h0
  have HS1 : Hid (∀ w v, NetAt w B v [] → Calls Try.prog 5 #[.pointer (some ⟨B, 0, none⟩), .int .i64 0, .int .i64 1, .string ⟨#[97]⟩] w fun e w' => e = .returned (.bool true) ∧ ∃ v', NetPost B w v [fa] v' w') :=
    hid (fun w v h => send_any B v [] 0 1 [97] w h (by simp))
  have HS2 : Hid (∀ w v, NetAt w B v [fa] → Calls Try.prog 5 #[.pointer (some ⟨B, 0, none⟩), .int .i64 0, .int .i64 1, .string ⟨#[98]⟩] w fun e w' => e = .returned (.bool true) ∧ ∃ v', NetPost B w v [fa, fb] v' w') :=
    hid (fun w v h => send_any B v [fa] 0 1 [98] w h (by simp))
  have HDB : Hid (∀ w v, NetAt w B v [fa, fb] → Calls Try.prog 8 #[.pointer (some ⟨B, 0, none⟩), .int .i64 0] w fun e w' => e = .returned (.bool true) ∧ ∃ v', NetPost B w v [fa, fb, fa] v' w') :=
    hid (fun w v h => double_any B v [fa, fb] 0 w h (by simp))
  have HTK : Hid (∀ w v, NetAt w B v [fa, fb, fa] → Calls Try.prog 7 #[.pointer (some ⟨B, 0, none⟩), .int .i64 (-1)] w fun e w' => e = .returned (.tuple #[.agg #[.int .i64 0, .int .i64 1, .string ⟨#[97]⟩, .bool false], .bool true]) ∧ ∃ v', NetPost B w v [fa, fb] v' w') :=
    hid (fun w v h => take_some B v [fa, fb, fa] (-1) fa rfl w h (by simp) (by simp))
  have HCT : Hid (∀ w v, NetAt w B v [fa, fb] → Calls Try.prog 12 #[.pointer (some ⟨B, 0, none⟩)] w fun e w' => e = .returned (.int .i64 2) ∧ w = w') :=
    hid (fun w v h => count_any B v [fa, fb] w h)
  go_enter Try.func4, Try.ntmps4
  go_wp2_with (first | (go_at_call 5; refine (HS1.out _ _ h0).mono ?_; rintro e1 w1 ⟨rfl, v1, n1⟩; have h1 := n1.at_; have f1 := n1.frm; clear h0 HS1) | (go_at_call 5; refine (HS2.out _ _ h1).mono ?_; rintro e2 w2 ⟨rfl, v2, n2⟩; have h2 := n2.at_) | (go_at_call 8; refine (HDB.out _ _ h2).mono ?_; rintro e3 w3 ⟨rfl, v3, n3⟩; have h3 := n3.at_) | (go_at_call 7; refine (HTK.out _ _ (h3.frm ((Frm.refl No w3).alloc _) (fun h => h) (fun _ _ h => h))).mono ?_; rintro e4 w4 ⟨rfl, v4, n4⟩; obtain ⟨k1, k2, k3, k4, k5⟩ := n4.box h3; have h5 := n4.at_.frm (store4_one (w1 := w4) (B := w3.heap.size) (.int .i64 0) (.int .i64 1) (.string ⟨#[97]⟩) (.bool false)) k4 (fun g hg e => k3 (by rw [hg]; exact congrArg some e)); obtain ⟨r0, r1, r2, r3⟩ := store4_cell (k1 0) (k1 1) (k1 2) (k1 3) (.int .i64 0) (.int .i64 1) (.string ⟨#[97]⟩) (.bool false)) | (go_at_call 12; refine (HCT.out _ _ h5).mono ?_; rintro e5 w5 ⟨rfl, rfl⟩))
  go_ret
  refine ⟨rfl, ?_⟩
  have g0 : ∀ k, (Value.slice none 0 0).ownBlock = some k → w.heap.size ≤ k := fun k h => by cases h
  have i0 : Frm No w (w.alloc (.cells #[.slice none 0 0] 26)) := (Frm.refl No w).alloc _
  have i1 := n1.no i0 (by omega) g0
  have g1 := n1.ge i0.size g0
  have i2 := n2.no i1 (by omega) g1
  have g2 := n2.ge i1.size g1
  have i3 := n3.no i2 (by omega) g2
  have g3 := n3.ge i2.size g2
  have i4 := n4.no (i3.alloc _) (by omega) g3
  exact store4 i4 i3.size _ _ _ _
end Go.Proofs.Ythbacebkidggdaa
