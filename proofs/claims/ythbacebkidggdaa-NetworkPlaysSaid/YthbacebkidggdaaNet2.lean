/- The walks of the network's round, Count, Look. -/
import Derived.Test.YthbacebkidggdaaNet1
import Derived.Deep.RegionWith
namespace Go.Proofs.Ythbacebkidggdaa
open Go.RowKit

def pl (x : Int) (n : Nat) : Nat := (x % (n : Int)).toNat
theorem pl_lt (x : Int) (n : Nat) (h : 0 < n) : pl x n < n := by
  unfold pl
  have h1 := Int.emod_nonneg x (b := (n : Int)) (by omega)
  have h2 := Int.emod_lt_of_pos x (b := (n : Int)) (by omega)
  omega
theorem pl_eq (x : Int) (n : Nat) (h : 0 < n) (hn : n ≤ 1000000000) : (wrap64 (x.tmod (n : Int) + (n : Int))).tmod (n : Int) = (pl x n : Int) := by
  have h1 := Int.lt_tmod_of_pos x (b := (n : Int)) (by omega)
  have h3 := Int.tmod_lt_of_pos x (b := (n : Int)) (by omega)
  have h4 := Int.emod_nonneg x (b := (n : Int)) (by omega)
  rw [IntWalk.wrap64_in _ (by omega), Int.tmod_eq_emod_of_nonneg (by omega)]
  unfold pl
  have e : (x.tmod (n : Int) + (n : Int)) % (n : Int) = x % (n : Int) := by
    rw [Int.add_emod_right]
    rw [Int.tmod_eq_emod]
    split
    · simp
    · have hn0 : (Int.natAbs (n : Int) : Int) = (n : Int) := by omega
      first | (rw [hn0, Int.sub_emod_right]; simp) | (simp [Int.sub_emod])
  rw [e]
  omega

set_option maxRecDepth 100000 in
theorem round_any (x : Int) (n : Nat) (w : World) (h : 0 < n) (hn : n ≤ 1000000000) :
    Calls Try.prog 13 #[.int .i64 x, .int .i64 (n : Int)] w fun e w' => e = .returned (.int .i64 (pl x n : Int)) ∧ w = w' := by
  have hp := pl_eq x n h hn
  have hn0 : ((n : Int) == 0) = false := by simp; omega
  go_enter Try.func13, Try.ntmps13
  go_wp2_with fail
  go_ret
  exact ⟨rfl, rfl⟩

structure NetAt (w : World) (b : Nat) (v : Value) (fs : List Fr) : Prop where
  c0 : w.cell? ⟨b, 0, none⟩ = some v
  f : ∀ j, w.frozen? ⟨b, j, none⟩ = false
  row : w.ownsRow 0 35 4 v fs.length (framesV fs)
  apart : v.ownBlock ≠ some b

theorem count_any (b : Nat) (v : Value) (fs : List Fr) (w : World) (h : NetAt w b v fs) :
    Calls Try.prog 12 #[.pointer (some ⟨b, 0, none⟩)] w fun e w' => e = .returned (.int .i64 (fs.length : Int)) ∧ w = w' := by
  obtain ⟨h0, hf, hr, -⟩ := h
  obtain ⟨ao, c, rfl⟩ := ownsRow_shape hr
  go_enter Try.func12, Try.ntmps12
  go_wp2_with fail
  go_ret
  exact ⟨rfl, rfl⟩
theorem count_nil (w : World) : Calls Try.prog 12 #[.pointer none] w fun e w' => e = .returned (.int .i64 0) ∧ w = w' := by
  go_enter Try.func12, Try.ntmps12
  go_wp2_with fail
  go_ret
  exact ⟨rfl, rfl⟩

def fr0 : Fr := ⟨0, 0, [], false⟩
set_option maxRecDepth 100000 in
theorem look_nil (x : Int) (w : World) : Calls Try.prog 11 #[.pointer none, .int .i64 x] w fun e w' => e = .returned (.tuple #[.agg (frV fr0).toArray, .bool false]) ∧ Frm No w w' := by
  go_enter Try.func11, Try.ntmps11
  go_wp2_with (go_at_call 12; refine (count_nil _).mono ?_; rintro e1 w1 ⟨rfl, rfl⟩)
  refine bodyPost_ret (v := .tuple #[.agg (frV fr0).toArray, .bool false]) (by simp [results, Try.results11, go_sem, frV, fr0]) rfl ⟨rfl, (Frm.refl _ _).alloc _⟩

def look (fs : List Fr) (x : Int) : Fr := fs.getD (pl x fs.length) fr0
theorem look_at {fs : List Fr} {x : Int} (h : 0 < fs.length) : look fs x = fs[pl x fs.length]'(pl_lt x _ h) := by
  simp [look, pl_lt x _ h]

theorem NetAt.frm {b : Nat} {w w1 : World} {v : Value} {fs : List Fr} (h : NetAt w b v fs) {S : Nat → Prop} (hf : Frm S w w1) (hS : ¬ S b) (hS2 : ∀ k, v.ownBlock = some k → ¬ S k) : NetAt w1 b v fs := by
  have hb : b < w.heap.size := World.block_lt_of_cell? w _ h.c0
  exact ⟨(hf.cell (p := ⟨b, 0, none⟩) hb hS).trans h.c0, fun j => (hf.frozen (p := ⟨b, j, none⟩) hb hS).trans (h.f j), hf.row h.row hS2, h.apart⟩

set_option maxRecDepth 100000 in
set_option maxHeartbeats 400000 in
theorem look_none (b : Nat) (v : Value) (x : Int) (w : World) (h : NetAt w b v []) : Calls Try.prog 11 #[.pointer (some ⟨b, 0, none⟩), .int .i64 x] w fun e w' => e = .returned (.tuple #[.agg (frV fr0).toArray, .bool false]) ∧ Frm No w w' := by
  have HC := hid (fun w h => count_any b v [] w h)
  have h1 : NetAt (w.alloc (.cells #[.int .i64 0, .int .i64 0, .string ⟨#[]⟩, .bool false] 35)) b v [] := h.frm ((Frm.refl No w).alloc _) (fun h => h) (fun _ _ h => h)
  clear h
  go_enter Try.func11, Try.ntmps11
  go_wp2_with (go_at_call 12; refine (HC.out _ h1).mono ?_; rintro e1 w1 ⟨rfl, rfl⟩)
  refine bodyPost_ret (v := .tuple #[.agg (frV fr0).toArray, .bool false]) (by simp [results, Try.results11, go_sem, frV, fr0]) rfl ⟨rfl, (Frm.refl _ _).alloc _⟩

set_option maxRecDepth 100000 in
set_option maxHeartbeats 400000 in
theorem look_some (b : Nat) (v : Value) (fs : List Fr) (x : Int) (w : World) (h : NetAt w b v fs) (hn : 0 < fs.length) (hsm : fs.length ≤ 100000) : Calls Try.prog 11 #[.pointer (some ⟨b, 0, none⟩), .int .i64 x] w fun e w' => e = .returned (.tuple #[.agg (frV (look fs x)).toArray, .bool true]) ∧ Frm No w w' := by
  have HC := hid (fun w h => count_any b v fs w h)
  have HR := hid (fun w => round_any x fs.length w hn (by omega))
  have hb : b < w.heap.size := World.block_lt_of_cell? w _ h.c0
  have h1 : NetAt (w.alloc (.cells #[.int .i64 0, .int .i64 0, .string ⟨#[]⟩, .bool false] 35)) b v fs := h.frm ((Frm.refl No w).alloc _) (fun h => h) (fun _ _ h => h)
  have h2 := h1.c0
  obtain ⟨ao, c, rfl⟩ := ownsRow_shape h.row
  have hpl := pl_lt x fs.length hn
  obtain ⟨g, rfl, -, -, c0, c1, c2, c3, -⟩ := row_at h1.row rfl (pl x fs.length) hpl
  have hlk := look_at (fs := fs) (x := x) hn
  have HLK := hid hlk
  have hnz : ((fs.length : Int) == 0) = false := by simp; intro e; rw [e] at hn; simp at hn
  have hpz : ((pl x fs.length : Nat) : Int) < (fs.length : Int) := by omega
  clear h hlk
  generalize fs[pl x fs.length] = f at *
  go_enter Try.func11, Try.ntmps11
  go_wp2_with (go_at_call 12; refine (HC.out _ h1).mono ?_; rintro e1 w1 ⟨rfl, rfl⟩)
  go_region_with (go_at_call 13; refine (HR.out _).mono ?_; rintro e2 w2 ⟨rfl, rfl⟩)
  all_goals
    go_wp2_with fail
    refine bodyPost_ret (v := .tuple #[.agg (frV (look fs x)).toArray, .bool true]) (by rw [HLK.out]; simp [results, Try.results11, go_sem, frV]) rfl ⟨rfl, ((Frm.refl _ _).alloc _).drew⟩

theorem look_any (b : Nat) (v : Value) (fs : List Fr) (x : Int) (w : World) (h : NetAt w b v fs) (hsm : fs.length ≤ 100000) : Calls Try.prog 11 #[.pointer (some ⟨b, 0, none⟩), .int .i64 x] w fun e w' => e = .returned (.tuple #[.agg (frV (look fs x)).toArray, .bool (decide (0 < fs.length))]) ∧ Frm No w w' := by
  cases fs with
  | nil => exact look_none b v x w h
  | cons f fs =>
    rw [decide_eq_true (by simp)]
    exact look_some b v (f :: fs) x w h (by simp) hsm
end Go.Proofs.Ythbacebkidggdaa
