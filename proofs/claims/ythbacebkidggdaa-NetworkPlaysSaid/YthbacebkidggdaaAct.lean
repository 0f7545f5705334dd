/- An Act of the network laws: read from an argument. -/
import Derived.Test.YthbacebkidggdaaOpenG
namespace Go.Proofs.Ythbacebkidggdaa
open Go.ChangeShapes Go.WideShapes Go.ChangeAt Go.RowKit Go.Deep

structure Ac where
  what : Int
  i : Int
  at_ : Int
  by_ : Int
  text : List UInt8
def acV (x : Ac) : List Value := [.int .i64 x.what, .int .i64 x.i, .int .i64 x.at_, .int .u32 x.by_, .string ⟨x.text.toArray⟩]
def AcOK (x : Ac) : Prop := Fits x.what ∧ Fits x.i ∧ Fits x.at_ ∧ (0 ≤ x.by_ ∧ x.by_ ≤ 4294967295) ∧ x.text.length ≤ maxLen
theorem cells_act : Try.prog.cellsOf 33 = 5 := by kernel_rfl
theorem el_u32 {H : Type} {enc : TypeId × Value → H} {W : World} {cs : List Value} {n : Nat} {x : DataW H × List MemPlace} (h : DataW.trod enc Try.prog W 0 (fun _ => true) true n 31 cs = some x) :
    ∃ y : Int, cs = [.int .u32 y] ∧ 0 ≤ y ∧ y ≤ 4294967295 := by
  obtain ⟨a, rfl, -, wa⟩ := DataW.trod_int Try.underlying31 h
  exact ⟨a, rfl, bounds_u32 wa⟩
theorem el_act {H : Type} {enc : TypeId × Value → H} {W : World} {cs : List Value} {n : Nat} {x : DataW H × List MemPlace} (hl : cs.length = 5) (h : DataW.trod enc Try.prog W 0 (fun _ => true) true n 33 cs = some x) :
    ∃ y : Ac, cs = acV y ∧ AcOK y := by
  obtain ⟨c0, c1, c2, c3, c4, rfl⟩ := len5 hl
  have F := fun j f hj c hc => trod_fld Try.underlying33 (by kernel_rfl) h j f hj c hc
  obtain ⟨n0, y0, h0⟩ := F 0 _ rfl _ rfl
  obtain ⟨n1, y1, h1⟩ := F 1 _ rfl _ rfl
  obtain ⟨n2, y2, h2⟩ := F 2 _ rfl _ rfl
  obtain ⟨n3, y3, h3⟩ := F 3 _ rfl _ rfl
  obtain ⟨n4, y4, h4⟩ := F 4 _ rfl _ rfl
  obtain ⟨k0, e0, g0⟩ := el_int h0
  obtain ⟨k1, e1, g1⟩ := el_int h1
  obtain ⟨k2, e2, g2⟩ := el_int h2
  obtain ⟨k3, e3, g3⟩ := el_u32 h3
  obtain ⟨t, e4, ht⟩ := el_string h4
  simp only [List.cons.injEq, and_true] at e0 e1 e2 e3 e4
  subst e0 e1 e2 e3 e4
  exact ⟨⟨k0, k1, k2, k3, t⟩, rfl, g0, g1, g2, g3, ht⟩
theorem open_acts {H : Type} {enc : TypeId × Value → H} {W : World} {v : Value} {d : DataW H} {ps : List MemPlace} (h : DataW.Trod enc Try.prog W 0 (fun _ => true) true 22 v d ps) (hv : ∃ a l c, v = .slice a l c) :
    ∃ xs : List Ac, RdL W v 5 acV xs ∧ xs.length ≤ maxLen ∧ ∀ y ∈ xs, AcOK y :=
  open_list Try.underlying22 cells_act (by omega) h hv (fun _ _ _ hl h => el_act hl h)
theorem act_at {w w' : World} {ao : Option Addr} {c : Nat} {xs : List Ac} (h : RdL w (.slice ao xs.length c) 5 acV xs) (hf : Frm No w w') (k : Nat) (hk : k < xs.length) : ∃ b o, ao = some ⟨b, o, none⟩ ∧ b < w.heap.size ∧ w'.cell? ⟨b, o + k * 5, none⟩ = some (.int .i64 xs[k].what) ∧
    w'.cell? ⟨b, o + k * 5 + 1, none⟩ = some (.int .i64 xs[k].i) ∧ w'.cell? ⟨b, o + k * 5 + 2, none⟩ = some (.int .i64 xs[k].at_) ∧ w'.cell? ⟨b, o + k * 5 + 3, none⟩ = some (.int .u32 xs[k].by_) ∧ w'.cell? ⟨b, o + k * 5 + 4, none⟩ = some (.string ⟨xs[k].text.toArray⟩) := by
  obtain ⟨b, o, e, hc⟩ := h.at_ (by omega)
  have h0 : w.cell? ⟨b, o + k * 5, none⟩ = some (.int .i64 xs[k].what) := hc k hk 0 (by omega)
  have hb : b < w.heap.size := World.block_lt_of_cell? w _ h0
  have g := fun j (hj : j < 5) => (hf.cell (p := ⟨b, o + (k * 5 + j), none⟩) hb (fun h => h)).trans (hc k hk j hj)
  refine ⟨b, o, e, hb, g 0 (by omega), ?_, ?_, ?_, ?_⟩
  all_goals
    rw [Nat.add_assoc]
    first | exact g 1 (by omega) | exact g 2 (by omega) | exact g 3 (by omega) | exact g 4 (by omega)
end Go.Proofs.Ythbacebkidggdaa
