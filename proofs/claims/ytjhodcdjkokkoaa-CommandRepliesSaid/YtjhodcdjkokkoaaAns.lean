/- A raw reply of the command laws, read from an argument; what the laws make of it; a block of the call's own. -/
import Derived.Test.YtjhodcdjkokkoaaOpenG
import Derived.Test.YtjhodcdjkokkoaaStore7
import Derived.Laws.IdiomArrays
namespace Go.Proofs.Ytjhodcdjkokkoaa
open Go.ChangeShapes Go.WideShapes Go.ChangeAt Go.RowKit Go.Deep

theorem len7 {α : Type} {l : List α} (h : l.length = 7) : ∃ a b c d e f g, l = [a, b, c, d, e, f, g] := by
  match l, h with
  | [a, b, c, d, e, f, g], _ => exact ⟨a, b, c, d, e, f, g, rfl⟩
/-- Bits as cells. -/
def bitV (l : List Nat) : List Value := l.map fun (n : Nat) => Value.int .u64 (n : Int)
@[simp] theorem bitV_length (l : List Nat) : (bitV l).length = l.length := by simp [bitV]
structure AnsOK (w : World) (x : Rp) (tv mv : Value) : Prop where
  text : x.text.length ≤ maxLen
  texts : x.texts.length ≤ maxLen
  ts : ∀ s ∈ x.texts, s.length ≤ maxLen
  marks : x.marks.length ≤ maxLen
  ms : ∀ n ∈ x.marks, n < 18446744073709551616
  k : Fits x.k
  line : Fits x.line
  col : Fits x.col
  count : Fits x.count
  rt : Rd w tv x.texts.length 1 (strsV x.texts)
  rm : Rd w mv x.marks.length 1 (bitV x.marks)
theorem cells_ans : Try.prog.cellsOf 55 = 7 := by kernel_rfl
theorem cells_u64 : Try.prog.cellsOf 93 = 1 := by kernel_rfl
theorem el_u64 {H : Type} {enc : TypeId × Value → H} {W : World} {cs : List Value} {n : Nat} {x : DataW H × List MemPlace} (h : DataW.trod enc Try.prog W 0 (fun _ => true) true n 93 cs = some x) :
    ∃ y : Nat, cs = [.int .u64 (y : Int)] ∧ y < 18446744073709551616 := by
  obtain ⟨a, rfl, -, wa⟩ := DataW.trod_int Try.underlying93 h
  have := bounds_u64 wa
  exact ⟨a.toNat, by rw [Int.toNat_of_nonneg (by omega)], by omega⟩
theorem el_ans {H : Type} {enc : TypeId × Value → H} {W : World} {cs : List Value} {n : Nat} {x : DataW H × List MemPlace} (hl : cs.length = 7) (h : DataW.trod enc Try.prog W 0 (fun _ => true) true n 55 cs = some x) :
    ∃ (y : Rp) (tv mv : Value), cs = [.int .i64 y.k, .int .i64 y.line, .int .i64 y.col, .int .i64 y.count, .string ⟨y.text.toArray⟩, tv, mv] ∧ AnsOK W y tv mv := by
  obtain ⟨c0, c1, c2, c3, c4, c5, c6, rfl⟩ := len7 hl
  have F := fun j f hj c hc => trod_fld Try.underlying55 (by kernel_rfl) h j f hj c hc
  obtain ⟨n0, y0, h0⟩ := F 0 _ rfl c0 rfl
  obtain ⟨n1, y1, h1⟩ := F 1 _ rfl c1 rfl
  obtain ⟨n2, y2, h2⟩ := F 2 _ rfl c2 rfl
  obtain ⟨n3, y3, h3⟩ := F 3 _ rfl c3 rfl
  obtain ⟨n4, y4, h4⟩ := F 4 _ rfl c4 rfl
  obtain ⟨n5, y5, h5⟩ := F 5 _ rfl c5 rfl
  obtain ⟨n6, y6, h6⟩ := F 6 _ rfl c6 rfl
  obtain ⟨k, e0, g0⟩ := el_int h0
  obtain ⟨a, e1, g1⟩ := el_int h1
  obtain ⟨b, e2, g2⟩ := el_int h2
  obtain ⟨c, e3, g3⟩ := el_int h3
  obtain ⟨t, e4, g4⟩ := el_string h4
  obtain ⟨ss, rs, hs, gs⟩ := open_cell_list Try.underlying22 cells_string (show DataW.trod enc Try.prog W 0 (fun _ => true) true n5 22 [c5] = some y5 from h5) (fun _ _ _ _ h => el_string h)
  obtain ⟨ms, rm, hm, gm⟩ := open_cell_list Try.underlying53 cells_u64 (show DataW.trod enc Try.prog W 0 (fun _ => true) true n6 53 [c6] = some y6 from h6) (fun _ _ _ _ h => el_u64 h)
  simp only [List.cons.injEq, and_true] at e0 e1 e2 e3 e4
  subst e0 e1 e2 e3 e4
  exact ⟨⟨k, a, b, c, t, ss, ms⟩, c5, c6, rfl, ⟨g4, hs, gs, hm, gm, g0, g1, g2, g3, rs, rm⟩⟩
set_option maxRecDepth 100000 in
theorem open_ans {H : Type} {enc : TypeId × Value → H} {W : World} {v : Value} {d : DataW H} {ps : List MemPlace} (h : DataW.Trod enc Try.prog W 0 (fun _ => true) true 55 v d ps) {r : Reach} {b0 : Nat} (hv : Value.okWide Try.prog W r b0 55 v) :
    ∃ y : Rp × Value × Value, v = rpV y.1 y.2.1 y.2.2 ∧ AnsOK W y.1 y.2.1 y.2.2 := by
  obtain ⟨cs, rfl, hsz⟩ := okWide_struct Try.underlying55 hv
  obtain ⟨fuel, hf⟩ := h
  obtain ⟨y, tv, mv, hy, ho⟩ := el_ans (cs := cs.toList) (by rw [Array.length_toList, hsz]; exact cells_ans) hf
  exact ⟨(y, tv, mv), by rw [rpV, ← Array.toArray_toList (xs := cs), hy], ho⟩

/-- What is played of a raw reply. -/
def Rep.cut (x : Rp) : Rp := ⟨x.k, x.line, x.col, x.count, x.text.take 2000, (x.texts.take 50).map (List.take 500), x.marks.take 50⟩
theorem Rep.cut_small (x : Rp) (h : ∀ n ∈ x.marks, n < 18446744073709551616) : (Rep.cut x).text.length ≤ 2000 ∧ (Rep.cut x).texts.length ≤ 50 ∧ (∀ s ∈ (Rep.cut x).texts, s.length ≤ 500) ∧ (Rep.cut x).marks.length ≤ 50 ∧ ∀ n ∈ (Rep.cut x).marks, n < 18446744073709551616 := by
  refine ⟨?_, ?_, fun s hs => ?_, ?_, fun n hn => h n (List.mem_of_mem_take hn)⟩
  · show (x.text.take 2000).length ≤ 2000; rw [List.length_take]; omega
  · show ((x.texts.take 50).map (List.take 500)).length ≤ 50; rw [List.length_map, List.length_take]; omega
  · obtain ⟨t, -, rfl⟩ := List.mem_map.1 hs
    rw [List.length_take]; omega
  · show (x.marks.take 50).length ≤ 50; rw [List.length_take]; omega
theorem Rep.cut_texts_snoc {l : List (List UInt8)} {j : Nat} (hj : j < l.length) (h5 : j < 50) : strsV (((l.take 50).map (List.take 500)).take (j + 1)) = strsV (((l.take 50).map (List.take 500)).take j) ++ [.string ⟨(l[j].take 500).toArray⟩] := by
  have hk : j < ((l.take 50).map (List.take 500)).length := by rw [List.length_map, List.length_take]; omega
  rw [List.take_succ_eq_append_getElem hk]
  simp [strsV]
theorem Rep.cut_marks_snoc {l : List Nat} {j : Nat} (hj : j < l.length) (h5 : j < 50) : fltV ((l.take 50).take (j + 1)) = fltV ((l.take 50).take j) ++ [.float .f64 l[j]] := by
  have hk : j < (l.take 50).length := by rw [List.length_take]; omega
  rw [List.take_succ_eq_append_getElem hk]
  simp [fltV]

/-- At block C, made since w0, lie the cells cs; nothing that was there at w0 has changed. -/
structure Box (w0 w : World) (C : Nat) (cs : List Value) : Prop where
  hC : w0.heap.size ≤ C
  lC : C < w.heap.size
  cell : ∀ j, w.cell? ⟨C, j, none⟩ = cs[j]?
  fr : ∀ j, w.frozen? ⟨C, j, none⟩ = false
  frm : Frm No w0 w
theorem Box.new {w0 w : World} (hf : Frm No w0 w) (cs : List Value) (T : TypeId) : Box w0 (w.alloc (.cells cs.toArray T)) w.heap.size cs :=
  ⟨hf.size, by simp, fun j => by rw [World.cell?_alloc_at _ _ _ _ rfl]; simp, fun j => World.frozen?_alloc_at _ _ _ _ rfl, hf.alloc _⟩
theorem Box.no {w0 w w' : World} {C : Nat} {cs : List Value} (h : Box w0 w C cs) (hf : Frm No w w') : Box w0 w' C cs :=
  ⟨h.hC, Nat.lt_of_lt_of_le h.lC hf.size, fun j => (hf.cell (p := ⟨C, j, none⟩) h.lC (fun h => h)).trans (h.cell j), fun j => (hf.frozen (p := ⟨C, j, none⟩) h.lC (fun h => h)).trans (h.fr j), h.frm.thenNo hf⟩
/-- Some other blocks, made since w0, changed. -/
theorem Box.other {w0 w w' : World} {C : Nat} {cs : List Value} {S : Nat → Prop} (h : Box w0 w C cs) (hf : Frm S w w') (hS : ¬ S C) (h0 : ∀ k, S k → w0.heap.size ≤ k) : Box w0 w' C cs :=
  ⟨h.hC, Nat.lt_of_lt_of_le h.lC hf.size, fun j => (hf.cell (p := ⟨C, j, none⟩) h.lC hS).trans (h.cell j), fun j => (hf.frozen (p := ⟨C, j, none⟩) h.lC hS).trans (h.fr j),
    h.frm.trans hf (fun _ _ h => h) (fun i hi hs => by have := h0 i hs; omega)⟩
theorem Box.set {w0 w : World} {C : Nat} {cs : List Value} (h : Box w0 w C cs) (j : Nat) (hj : j < cs.length) (x : Value) : Box w0 (w.setCell ⟨C, j, none⟩ x) C (cs.set j x) := by
  have hS : Frm (One C) w (w.setCell ⟨C, j, none⟩ x) := setCell_none x
  refine ⟨h.hC, Nat.lt_of_lt_of_le h.lC hS.size, fun i => ?_, fun i => ?_, h.frm.trans hS (fun _ _ h => h) (fun i hi e => by have e : i = C := e; have := h.hC; omega)⟩
  · by_cases hij : i = j
    · subst hij
      have hc := h.cell i
      rw [List.getElem?_eq_getElem hj] at hc
      rw [World.cell?_setCell_same' w ⟨C, i, none⟩ x (by rw [hc]; rfl)]
      simp [hj]
    · rw [World.cell?_setCell_other w ⟨C, j, none⟩ ⟨C, i, none⟩ x (by intro e; injection e with _ e; omega), h.cell i, List.getElem?_set]
      rw [if_neg (by omega)]
  · simpa using h.fr i
theorem Box.setOther {w0 w : World} {C D : Nat} {cs : List Value} (h : Box w0 w C cs) (hD : w0.heap.size ≤ D) (hne : C ≠ D) (j : Nat) (x : Value) : Box w0 (w.setCell ⟨D, j, none⟩ x) C cs :=
  h.other (setCell_none x) (fun e => hne e) (fun k hk => by have hk : k = D := hk; omega)
theorem Box.set7 {w0 w : World} {C : Nat} {y0 y1 y2 y3 y4 y5 y6 : Value} (h : Box w0 w C [y0, y1, y2, y3, y4, y5, y6]) (x0 x1 x2 x3 x4 x5 x6 : Value) : Box w0 (((((((w.setCell ⟨C, 0, none⟩ x0).setCell ⟨C, 1, none⟩ x1).setCell ⟨C, 2, none⟩ x2).setCell ⟨C, 3, none⟩ x3).setCell ⟨C, 4, none⟩ x4).setCell ⟨C, 5, none⟩ x5).setCell ⟨C, 6, none⟩ x6) C [x0, x1, x2, x3, x4, x5, x6] :=
  (((((((h.set 0 (by simp) x0).set 1 (by simp) x1).set 2 (by simp) x2).set 3 (by simp) x3).set 4 (by simp) x4).set 5 (by simp) x5).set 6 (by simp) x6)
theorem Box.other7 {w0 w : World} {C D : Nat} {cs : List Value} (h : Box w0 w C cs) (hD : w0.heap.size ≤ D) (hne : C ≠ D) (x0 x1 x2 x3 x4 x5 x6 : Value) : Box w0 (((((((w.setCell ⟨D, 0, none⟩ x0).setCell ⟨D, 1, none⟩ x1).setCell ⟨D, 2, none⟩ x2).setCell ⟨D, 3, none⟩ x3).setCell ⟨D, 4, none⟩ x4).setCell ⟨D, 5, none⟩ x5).setCell ⟨D, 6, none⟩ x6) C cs :=
  (((((((h.setOther hD hne 0 x0).setOther hD hne 1 x1).setOther hD hne 2 x2).setOther hD hne 3 x3).setOther hD hne 4 x4).setOther hD hne 5 x5).setOther hD hne 6 x6)
theorem src_new {P : Program} {w : World} {t e T : TypeId} (ht : P.underlying t = some (.slice e)) {x : Value} (h1 : x.oneCell' = true) : Src P 1 t (.slice (some ⟨w.heap.size, 0, none⟩) 1 1) 1 [x] (w.alloc (.cells #[x] T)).drew :=
  Src.ofSlice _ ht ⟨w.heap.size, 0, none⟩ 1 1 [x] rfl (fun j u hj => by
    have hj0 : j = 0 := by
      rcases Nat.lt_or_ge j 1 with h | h
      · omega
      · rw [List.getElem?_eq_none (by simpa using h)] at hj; cases hj
    subst hj0
    rw [Addr.add_lit]
    exact (show (w.alloc (.cells #[x] T)).cell? ⟨w.heap.size, 0, none⟩ = some u from (World.cell?_alloc_at _ _ _ _ rfl).trans hj)) (fun u hu => by simp at hu; subst hu; exact h1)
end Go.Proofs.Ytjhodcdjkokkoaa
