/- A raw command of the command laws, read from an argument; whether it is too large to be played. -/
import Derived.Test.YtfnhcnmlaginoaaOpenG
import Derived.Test.YtfnhcnmlaginoaaCmdG2
import Derived.Laws.IdiomArrays
namespace Go.Proofs.Ytfnhcnmlaginoaa
open Go.ChangeShapes Go.WideShapes Go.ChangeAt Go.RowKit Go.Deep

theorem cell_alloc {W : World} {p : Addr} {v : Value} (h : W.cell? p = some v) (o : Obj) : (W.alloc o).cell? p = some v := (((Frm.refl No W).alloc o).cell (World.block_lt_of_cell? W p h) (fun h => h)).trans h
theorem len10 {α : Type} {l : List α} (h : l.length = 10) : ∃ a b c d e f g i j k, l = [a, b, c, d, e, f, g, i, j, k] := by
  match l, h with
  | [a, b, c, d, e, f, g, i, j, k], _ => exact ⟨a, b, c, d, e, f, g, i, j, k, rfl⟩

section
variable {H : Type} {enc : TypeId × Value → H} {P : Program} {W : World}
/-- A field of a struct, of so many cells. -/
theorem trod_fldw {t : TypeId} {fs : Array Field} {fuel : Nat} {cs : List Value} {x : DataW H × List MemPlace} (hs : P.underlying t = some (.struct fs))
    (h : DataW.trod enc P W 0 (fun _ => true) true fuel t cs = some x) (j : Nat) (T : TypeId) (o c : Nat) (hj : (fs[j]?).map (fun f => (f.type, f.offset, P.cellsOf f.type)) = some (T, o, c)) :
    ∃ n y, DataW.trod enc P W 0 (fun _ => true) true n T ((cs.drop o).take c) = some y := by
  obtain ⟨ys, n, -, -, hcl, hyl, hf⟩ := DataW.trod_struct hs h
  cases hg : fs[j]? with
  | none => rw [hg] at hj; cases hj
  | some f =>
    rw [hg] at hj
    simp only [Option.map_some, Option.some.injEq, Prod.mk.injEq] at hj
    obtain ⟨rfl, rfl, rfl⟩ := hj
    have h1 := hf j f hg
    have hjl : j < fs.size := (Array.getElem?_eq_some_iff.1 hg).1
    rw [List.getElem?_eq_getElem (by omega)] at h1
    exact ⟨n, _, h1⟩
end

structure RawOK (w : World) (x : Cm × Value) : Prop where
  who : x.1.who.length ≤ maxLen
  name : x.1.name.length ≤ maxLen
  other : x.1.other.length ≤ maxLen
  text : x.1.text.length ≤ maxLen
  word : x.1.word.length ≤ maxLen
  ws : ∀ s ∈ x.1.word, s.length ≤ maxLen
  kind : Fits x.1.kind
  n0 : Fits x.1.n0
  n1 : Fits x.1.n1
  n2 : Fits x.1.n2
  n3 : Fits x.1.n3
  rd : Rd w x.2 x.1.word.length 1 (strsV x.1.word)
theorem RawOK.small {w : World} {x : Cm × Value} (h : RawOK w x) : Cmd.small x.1 := ⟨h.who, h.name, h.other, h.text, h.word, h.ws⟩

theorem cells_raw : Try.prog.cellsOf 25 = 10 := by kernel_rfl
theorem cells_arr4 : Try.prog.cellsOf 23 = 4 := by kernel_rfl
theorem el_raw {H : Type} {enc : TypeId × Value → H} {W : World} {cs : List Value} {n : Nat} {x : DataW H × List MemPlace} (hl : cs.length = 10) (h : DataW.trod enc Try.prog W 0 (fun _ => true) true n 25 cs = some x) :
    ∃ y : Cm × Value, cs = [.int .i64 y.1.kind, .string ⟨y.1.who.toArray⟩, .string ⟨y.1.name.toArray⟩, .string ⟨y.1.other.toArray⟩, .string ⟨y.1.text.toArray⟩, y.2, .int .i64 y.1.n0, .int .i64 y.1.n1, .int .i64 y.1.n2, .int .i64 y.1.n3] ∧ RawOK W y := by
  obtain ⟨c0, c1, c2, c3, c4, c5, c6, c7, c8, c9, rfl⟩ := len10 hl
  have F := fun j T o c hj => trod_fldw Try.underlying25 h j T o c hj
  obtain ⟨n0, y0, h0⟩ := F 0 3 0 1 (by kernel_rfl)
  obtain ⟨n1, y1, h1⟩ := F 1 9 1 1 (by kernel_rfl)
  obtain ⟨n2, y2, h2⟩ := F 2 9 2 1 (by kernel_rfl)
  obtain ⟨n3, y3, h3⟩ := F 3 9 3 1 (by kernel_rfl)
  obtain ⟨n4, y4, h4⟩ := F 4 9 4 1 (by kernel_rfl)
  obtain ⟨n5, y5, h5⟩ := F 5 22 5 1 (by kernel_rfl)
  obtain ⟨n6, y6, h6⟩ := F 6 23 6 4 (by kernel_rfl)
  obtain ⟨k, e0, g0⟩ := el_int h0
  obtain ⟨a1, e1, g1⟩ := el_string h1
  obtain ⟨a2, e2, g2⟩ := el_string h2
  obtain ⟨a3, e3, g3⟩ := el_string h3
  obtain ⟨a4, e4, g4⟩ := el_string h4
  obtain ⟨ss, rs, hs, gs⟩ := open_cell_list Try.underlying22 cells_string (show DataW.trod enc Try.prog W 0 (fun _ => true) true n5 22 [c5] = some y5 from h5) (fun _ _ _ _ h => el_string h)
  obtain ⟨z0, z1, z2, z3, m, -, q0, q1, q2, q3⟩ := trod_array4 Try.underlying23 cells_int (show DataW.trod enc Try.prog W 0 (fun _ => true) true n6 23 [c6, c7, c8, c9] = some y6 from h6)
  obtain ⟨m0, e6, g6⟩ := el_int q0
  obtain ⟨m1, e7, g7⟩ := el_int q1
  obtain ⟨m2, e8, g8⟩ := el_int q2
  obtain ⟨m3, e9, g9⟩ := el_int q3
  simp only [List.drop_zero, List.drop_succ_cons, List.take_succ_cons, List.take_zero, List.cons.injEq, and_true] at e0 e1 e2 e3 e4 e6 e7 e8 e9
  subst e0 e1 e2 e3 e4 e6 e7 e8 e9
  exact ⟨(⟨k, a1, a2, a3, a4, ss, m0, m1, m2, m3⟩, c5), rfl, ⟨g1, g2, g3, g4, hs, gs, g0, g6, g7, g8, g9, rs⟩⟩
set_option maxRecDepth 100000 in
theorem open_raw {H : Type} {enc : TypeId × Value → H} {W : World} {v : Value} {d : DataW H} {ps : List MemPlace} (h : DataW.Trod enc Try.prog W 0 (fun _ => true) true 25 v d ps) {r : Reach} {b0 : Nat} (hv : Value.okWide Try.prog W r b0 25 v) :
    ∃ y : Cm × Value, v = cmV y.1 y.2 ∧ RawOK W y := by
  obtain ⟨cs, rfl, hsz⟩ := okWide_struct Try.underlying25 hv
  obtain ⟨fuel, hf⟩ := h
  obtain ⟨y, hy, ho⟩ := el_raw (cs := cs.toList) (by rw [Array.length_toList, hsz]; exact cells_raw) hf
  exact ⟨y, by rw [cmV, ← Array.toArray_toList (xs := cs), hy], ho⟩

/-- Too large to be played. -/
def Cmd.lg (c : Cm) : Bool := decide (200 < c.who.length) || decide (200 < c.name.length) || decide (200 < c.other.length) || decide (3000 < c.text.length) || decide (80 < c.word.length) || c.word.any fun s => decide (100 < s.length)
theorem Cmd.lg_parts {c : Cm} (h : Cmd.lg c = false) : c.who.length ≤ 200 ∧ c.name.length ≤ 200 ∧ c.other.length ≤ 200 ∧ c.text.length ≤ 3000 ∧ c.word.length ≤ 80 ∧ ∀ s ∈ c.word, s.length ≤ 100 := by
  simp only [Cmd.lg, Bool.or_eq_false_iff, decide_eq_false_iff_not, List.any_eq_false, Nat.not_lt, decide_eq_true_eq] at h
  obtain ⟨⟨⟨⟨⟨h1, h2⟩, h3⟩, h4⟩, h5⟩, h6⟩ := h
  exact ⟨h1, h2, h3, h4, h5, h6⟩
end Go.Proofs.Ytfnhcnmlaginoaa
