/- What is thrown is caught. -/
import Derived.Test.YtebocnpbiiejmaaDoorTwP8
import Derived.Handy
import Derived.Defers
import Derived.Recover
import Derived.Laws.Pointers
import Derived.WalkSpells
namespace Go.Proofs.YtebocnpbiiejmaaDoor
open Go.RowKit
/-- the results' variables are as if nothing had been parsed -/
def Caught (a b : Nat) (x y z : Int) (w w' : World) : Prop :=
  Frm (fun k => k = a ∨ k = b) w w' ∧ w'.cell? ⟨a, 0, none⟩ = some (.string ⟨#[]⟩) ∧ w'.cell? ⟨a, 1, none⟩ = some (.slice none 0 0) ∧ w'.cell? ⟨b, 0, none⟩ = some (.int .i64 x) ∧ w'.cell? ⟨b, 1, none⟩ = some (.int .i64 y) ∧ w'.cell? ⟨b, 2, none⟩ = some (.int .i64 z)
theorem caught_of {a b : Nat} {x y z : Int} {w W : World} (hf : Frm (fun k => k = a ∨ k = b) w W.drew)
    (h : W.cell? ⟨a, 0, none⟩ = some (.string ⟨#[]⟩) ∧ W.cell? ⟨a, 1, none⟩ = some (.slice none 0 0) ∧ W.cell? ⟨b, 0, none⟩ = some (.int .i64 x) ∧ W.cell? ⟨b, 1, none⟩ = some (.int .i64 y) ∧ W.cell? ⟨b, 2, none⟩ = some (.int .i64 z)) : Caught a b x y z w W.drew := ⟨hf, h⟩
theorem five_cells {W : World} {a b : Nat} {g0 g1 f0 f1 f2 u0 u1 v0 v1 v2 : Value} (hab : ¬ a = b) (c0 : W.cell? ⟨a, 0, none⟩ = some g0) (c1 : W.cell? ⟨a, 1, none⟩ = some g1) (d0 : W.cell? ⟨b, 0, none⟩ = some f0) (d1 : W.cell? ⟨b, 1, none⟩ = some f1) (d2 : W.cell? ⟨b, 2, none⟩ = some f2) :
    (((((W.setCell ⟨a, 0, none⟩ u0).setCell ⟨a, 1, none⟩ u1).setCell ⟨b, 0, none⟩ v0).setCell ⟨b, 1, none⟩ v1).setCell ⟨b, 2, none⟩ v2).cell? ⟨a, 0, none⟩ = some u0 ∧ (((((W.setCell ⟨a, 0, none⟩ u0).setCell ⟨a, 1, none⟩ u1).setCell ⟨b, 0, none⟩ v0).setCell ⟨b, 1, none⟩ v1).setCell ⟨b, 2, none⟩ v2).cell? ⟨a, 1, none⟩ = some u1 ∧
    (((((W.setCell ⟨a, 0, none⟩ u0).setCell ⟨a, 1, none⟩ u1).setCell ⟨b, 0, none⟩ v0).setCell ⟨b, 1, none⟩ v1).setCell ⟨b, 2, none⟩ v2).cell? ⟨b, 0, none⟩ = some v0 ∧ (((((W.setCell ⟨a, 0, none⟩ u0).setCell ⟨a, 1, none⟩ u1).setCell ⟨b, 0, none⟩ v0).setCell ⟨b, 1, none⟩ v1).setCell ⟨b, 2, none⟩ v2).cell? ⟨b, 1, none⟩ = some v1 ∧
    (((((W.setCell ⟨a, 0, none⟩ u0).setCell ⟨a, 1, none⟩ u1).setCell ⟨b, 0, none⟩ v0).setCell ⟨b, 1, none⟩ v1).setCell ⟨b, 2, none⟩ v2).cell? ⟨b, 2, none⟩ = some v2 := by
  have hba : ¬ b = a := fun e => hab e.symm
  have o : ∀ (w : World) (x y : Nat) (i j : Nat) (u : Value), (¬ x = y ∨ ¬ i = j) → (w.setCell ⟨x, i, none⟩ u).cell? ⟨y, j, none⟩ = w.cell? ⟨y, j, none⟩ := fun w x y i j u h => World.cell?_setCell_other _ _ _ _ (fun e => by
    injection e with e1 e2
    rcases h with h | h
    · exact h e1
    · exact h e2)
  refine ⟨?_, ?_, ?_, ?_, ?_⟩
  · rw [o _ b a _ _ _ (.inl hba), o _ b a _ _ _ (.inl hba), o _ b a _ _ _ (.inl hba), o _ a a _ _ _ (.inr (by decide))]
    exact World.cell?_setCell_same _ _ _ c0
  · rw [o _ b a _ _ _ (.inl hba), o _ b a _ _ _ (.inl hba), o _ b a _ _ _ (.inl hba)]
    exact World.cell?_setCell_same _ _ _ ((o _ a a _ _ _ (.inr (by decide))).trans c1)
  · rw [o _ b b _ _ _ (.inr (by decide)), o _ b b _ _ _ (.inr (by decide))]
    exact World.cell?_setCell_same _ _ _ ((o _ a b _ _ _ (.inl hab)).trans ((o _ a b _ _ _ (.inl hab)).trans d0))
  · rw [o _ b b _ _ _ (.inr (by decide))]
    exact World.cell?_setCell_same _ _ _ ((o _ b b _ _ _ (.inr (by decide))).trans ((o _ a b _ _ _ (.inl hab)).trans ((o _ a b _ _ _ (.inl hab)).trans d1)))
  · exact World.cell?_setCell_same _ _ _ ((o _ b b _ _ _ (.inr (by decide))).trans ((o _ b b _ _ _ (.inr (by decide))).trans ((o _ a b _ _ _ (.inl hab)).trans ((o _ a b _ _ _ (.inl hab)).trans d2))))
set_option maxHeartbeats 2000000 in
theorem catch_wrong (a b : Nat) (hab : ¬ a = b) (x y z : Int) (g0 g1 f0 f1 f2 : Value) (older : List PanicEntry) (w : World) (k0 : w.cell? ⟨a, 0, none⟩ = some g0) (k1 : w.cell? ⟨a, 1, none⟩ = some g1) (q0 : w.cell? ⟨b, 0, none⟩ = some f0) (q1 : w.cell? ⟨b, 1, none⟩ = some f1) (q2 : w.cell? ⟨b, 2, none⟩ = some f2)
    (hz1 : ∀ j, w.frozen? ⟨a, j, none⟩ = false) (hz2 : ∀ j, w.frozen? ⟨b, j, none⟩ = false) (R : Ending → FrameMode → World → Prop) (HR : Hid (∀ w', Caught a b x y z w w' → R (.returned (.tuple #[])) (.panicking ({ v := .iface 46 (.agg #[.int .i64 x, .int .i64 y, .int .i64 z]), recovered := true } :: older)) w')) :
    CallsD Tryd.prog 10 #[.pointer (some ⟨a, 0, none⟩), .pointer (some ⟨b, 0, none⟩)] (.panicking ({ v := .iface 46 (.agg #[.int .i64 x, .int .i64 y, .int .i64 z]), recovered := false } :: older)) w R := by
  refine callsD_of_wpS Tryd.func10 rfl fun c₀ cs hu => ?_
  apply wpS_seq
  apply wpS_region
  simp [wpOpsS, go_sem, recoverD, hu, Tryd.ntmps10, Exit.thenS]
  refine wpS_of_wp ?_
  have hta : ∀ w : World, (Instr.typeAssert (.iface 46 (.agg #[.int .i64 x, .int .i64 y, .int .i64 z])) 20 46 true).run Tryd.prog w = .ok (.tuple #[.agg #[.int .i64 x, .int .i64 y, .int .i64 z], .bool true]) w := fun _ => by kernel_rfl
  generalize hPost : (fun (e : Exit) (a' : Act) (w' : World) => _) = POST
  have ht : (#[Value.pointer (some ⟨a, 0, none⟩), Value.pointer (some ⟨b, 0, none⟩)] ++ ((Array.replicate 17 undef).setIfInBounds 3 (Value.iface 46 (.agg #[.int .i64 x, .int .i64 y, .int .i64 z]))).setIfInBounds 0 (Value.iface 46 (.agg #[.int .i64 x, .int .i64 y, .int .i64 z])) : Array Value) = #[.pointer (some ⟨a, 0, none⟩), .pointer (some ⟨b, 0, none⟩), .iface 46 (.agg #[.int .i64 x, .int .i64 y, .int .i64 z]), undef, undef, .iface 46 (.agg #[.int .i64 x, .int .i64 y, .int .i64 z]), undef, undef, undef, undef, undef, undef, undef, undef, undef, undef, undef, undef, undef] := rfl
  rw [ht]
  clear ht
  have HPP := hid hPost
  clear hPost hu
  go_upto_region 5 with fail
  obtain ⟨H, hH⟩ : ∃ H, w.heap.size = H := ⟨_, rfl⟩
  have hFA : Frm No w (w.alloc (.cells #[.int .i64 x, .int .i64 y, .int .i64 z] 46)) := (Frm.refl No w).alloc _
  have haw : a < w.heap.size := World.block_lt_of_cell? w _ k0
  have hbw : b < w.heap.size := World.block_lt_of_cell? w _ q0
  have c0 := (hFA.cell (p := ⟨a, 0, none⟩) haw (fun h => h)).trans k0
  have c1 := (hFA.cell (p := ⟨a, 1, none⟩) haw (fun h => h)).trans k1
  have d0 := (hFA.cell (p := ⟨b, 0, none⟩) hbw (fun h => h)).trans q0
  have d1 := (hFA.cell (p := ⟨b, 1, none⟩) hbw (fun h => h)).trans q1
  have d2 := (hFA.cell (p := ⟨b, 2, none⟩) hbw (fun h => h)).trans q2
  have cz := fun j => (hFA.frozen (p := ⟨a, j, none⟩) haw (fun h => h)).trans (hz1 j)
  have dz := fun j => (hFA.frozen (p := ⟨b, j, none⟩) hbw (fun h => h)).trans (hz2 j)
  have e0 : (w.alloc (.cells #[.int .i64 x, .int .i64 y, .int .i64 z] 46)).cell? ⟨H, 0, none⟩ = some (.int .i64 x) := World.cell?_alloc_at _ _ _ _ hH.symm
  have e1 : (w.alloc (.cells #[.int .i64 x, .int .i64 y, .int .i64 z] 46)).cell? ⟨H, 1, none⟩ = some (.int .i64 y) := World.cell?_alloc_at _ _ _ _ hH.symm
  have e2 : (w.alloc (.cells #[.int .i64 x, .int .i64 y, .int .i64 z] 46)).cell? ⟨H, 2, none⟩ = some (.int .i64 z) := World.cell?_alloc_at _ _ _ _ hH.symm
  rw [hH]
  have haH : ¬ a = H := by omega
  have hbH : ¬ b = H := by omega
  have hHa : ¬ H = a := by omega
  have hHb : ¬ H = b := by omega
  have hba : ¬ b = a := fun e => hab e.symm
  have HFA := hid hFA
  clear hFA k0 k1 q0 q1 q2 hz1 hz2 haw hbw hH
  generalize w.alloc (.cells #[.int .i64 x, .int .i64 y, .int .i64 z] 46) = W at *
  go_region
  have n01 : (⟨a, 0, none⟩ : Addr) ≠ ⟨a, 1, none⟩ := by simp
  rw [← HPP.out]
  simp only [bodyPostS, results, Tryd.results10, go_sem]
  refine ⟨trivial, _, rfl, .tuple #[], by simp [go_sem], ?_⟩
  refine HR.out _ (caught_of ?_ (five_cells hab c0 c1 d0 d1 d2))
  · exact ((((((HFA.out.any.setCell (p := ⟨a, 0, none⟩) (fun _ => Or.inl rfl) _).setCell (p := ⟨a, 1, none⟩) (fun _ => Or.inl rfl) _).setCell (p := ⟨b, 0, none⟩) (fun _ => Or.inr rfl) _).setCell (p := ⟨b, 1, none⟩) (fun _ => Or.inr rfl) _).setCell (p := ⟨b, 2, none⟩) (fun _ => Or.inr rfl) _).drew)
set_option maxHeartbeats 2000000 in
/-- nothing was thrown -/
theorem catch_idle (a b : Nat) (w : World) :
    CallsD Tryd.prog 10 #[.pointer (some ⟨a, 0, none⟩), .pointer (some ⟨b, 0, none⟩)] .returning w fun e u' w' => e = .returned (.tuple #[]) ∧ u' = .returning ∧ w' = w := by
  refine callsD_of_wpS Tryd.func10 rfl fun c₀ cs hu => ?_
  apply wpS_seq
  apply wpS_region
  simp [wpOpsS, go_sem, recoverD, hu, Tryd.ntmps10, Exit.thenS]
  refine wpS_of_wp ?_
  generalize hPost : (fun (e : Exit) (a' : Act) (w' : World) => _) = POST
  have ht : (#[Value.pointer (some ⟨a, 0, none⟩), Value.pointer (some ⟨b, 0, none⟩)] ++ ((Array.replicate 17 undef).setIfInBounds 3 Value.nilIface).setIfInBounds 0 Value.nilIface : Array Value) = #[.pointer (some ⟨a, 0, none⟩), .pointer (some ⟨b, 0, none⟩), .nilIface, undef, undef, .nilIface, undef, undef, undef, undef, undef, undef, undef, undef, undef, undef, undef, undef, undef] := rfl
  rw [ht]
  clear ht
  have HPP := hid hPost
  clear hPost
  have HU := hid hu
  clear hu
  go_wp2_with fail
  rw [← HPP.out]
  simp only [bodyPostS, results, Tryd.results10, go_sem]
  exact ⟨trivial, _, rfl, .tuple #[], by simp [go_sem], rfl, HU.out, trivial⟩
end Go.Proofs.YtebocnpbiiejmaaDoor
