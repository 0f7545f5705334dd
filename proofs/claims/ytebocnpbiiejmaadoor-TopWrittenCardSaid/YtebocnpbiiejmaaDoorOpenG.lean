/- Arguments that are slices of arrays or structs, read element by element. -/
import Derived.Test.YtebocnpbiiejmaaDoorFrame
import Derived.Deep.Slices
import Derived.Deep.Fields
namespace Go.Proofs.YtebocnpbiiejmaaDoor
open Go.ChangeShapes Go.WideShapes Go.ChangeAt Go.RowKit
open Go.Deep

theorem len2 {α : Type} {l : List α} (h : l.length = 2) : ∃ a b, l = [a, b] := by
  match l, h with
  | [a, b], _ => exact ⟨a, b, rfl⟩
theorem len3 {α : Type} {l : List α} (h : l.length = 3) : ∃ a b c, l = [a, b, c] := by
  match l, h with
  | [a, b, c], _ => exact ⟨a, b, c, rfl⟩
theorem len5 {α : Type} {l : List α} (h : l.length = 5) : ∃ a b c d e, l = [a, b, c, d, e] := by
  match l, h with
  | [a, b, c, d, e], _ => exact ⟨a, b, c, d, e, rfl⟩
theorem len6 {α : Type} {l : List α} (h : l.length = 6) : ∃ a b c d e f, l = [a, b, c, d, e, f] := by
  match l, h with
  | [a, b, c, d, e, f], _ => exact ⟨a, b, c, d, e, f, rfl⟩

/-- A slice that reads as a list of elements of 'size' cells each. -/
structure RdL {α : Type} (w : World) (v : Value) (size : Nat) (cells : α → List Value) (xs : List α) : Prop where
  cells : (xs = [] ∧ ∃ ao c, v = .slice ao 0 c) ∨ ∃ b o c, v = .slice (some ⟨b, o, none⟩) xs.length c ∧ ∀ i (hi : i < xs.length) j, j < size → w.cell? ⟨b, o + (i * size + j), none⟩ = (cells xs[i])[j]?

theorem RdL.shape {α : Type} {w : World} {v : Value} {size : Nat} {cells : α → List Value} {xs : List α} (h : RdL w v size cells xs) : ∃ ao c, v = .slice ao xs.length c := by
  rcases h.cells with ⟨rfl, ao, c, rfl⟩ | ⟨b, o, c, rfl, _⟩
  · exact ⟨_, _, rfl⟩
  · exact ⟨_, _, rfl⟩
theorem RdL.at_ {α : Type} {w : World} {ao : Option Addr} {c : Nat} {size : Nat} {cells : α → List Value} {xs : List α} (h : RdL w (.slice ao xs.length c) size cells xs) (hn : 0 < xs.length) :
    ∃ b o, ao = some ⟨b, o, none⟩ ∧ ∀ i (hi : i < xs.length) j, j < size → w.cell? ⟨b, o + (i * size + j), none⟩ = (cells xs[i])[j]? := by
  rcases h.cells with ⟨rfl, _⟩ | ⟨b, o, c', e, hc⟩
  · simp at hn
  · simp only [Value.slice.injEq] at e
    exact ⟨b, o, e.1, hc⟩
theorem RdL.frm {α : Type} {w w' : World} {v : Value} {size : Nat} {cells : α → List Value} {xs : List α} {S : Nat → Prop} (h : RdL w v size cells xs) (hsz : ∀ x ∈ xs, (cells x).length = size)
    (hf : Frm S w w') (hS : ∀ k, v.ownBlock = some k → ¬ S k) : RdL w' v size cells xs := by
  refine ⟨?_⟩
  rcases h.cells with h0 | ⟨b, o, c, rfl, hc⟩
  · exact Or.inl h0
  · refine Or.inr ⟨b, o, c, rfl, fun i hi j hj => ?_⟩
    have h1 := hc i hi j hj
    have hl : j < (cells xs[i]).length := by rw [hsz _ (List.getElem_mem hi)]; exact hj
    rw [List.getElem?_eq_getElem hl] at h1
    have hb : b < w.heap.size := World.block_lt_of_cell? w _ h1
    rw [← hc i hi j hj]
    exact hf.cell (p := ⟨b, o + (i * size + j), none⟩) hb (hS b rfl)

section
variable {H : Type} {enc : TypeId × Value → H} {P : Program} {W : World}

/-- An argument that is a slice: each element's cells, and that they read. -/
theorem open_rows {t e : TypeId} {v : Value} {d : DataW H} {ps : List MemPlace} (ht : P.underlying t = some (.slice e)) (hsz : 0 < P.cellsOf e) (h : DataW.Trod enc P W 0 (fun _ => true) true t v d ps) (hv : ∃ a l c, v = .slice a l c) :
    (∃ a c, v = .slice a 0 c) ∨ ∃ b o len cap, v = .slice (some ⟨b, o, none⟩) len cap ∧ len ≤ maxLen ∧
      ∀ i, i < len → ∃ cs n x, cs.length = P.cellsOf e ∧ (∀ j, j < P.cellsOf e → W.cell? ⟨b, o + (i * P.cellsOf e + j), none⟩ = cs[j]?) ∧ DataW.trod enc P W 0 (fun _ => true) true n e cs = some x := by
  obtain ⟨fuel, hf⟩ := h
  obtain ⟨a0, l0, c0, rfl⟩ := hv
  rcases open_slice ht hf with ⟨hcs, -⟩ | ⟨a, len, cap, m, n, D, Pl, hcs, -, hlc, hcm, hm, -, hx⟩
  · simp [Value.cells] at hcs
    obtain ⟨rfl, rfl, rfl⟩ := hcs
    exact Or.inl ⟨_, _, rfl⟩
  · simp [Value.cells] at hcs
    obtain ⟨rfl, rfl, rfl⟩ := hcs
    by_cases h0 : l0 = 0
    · subst h0
      exact Or.inl ⟨_, _, rfl⟩
    · right
      have hle : l0 ≤ m := by rw [hm]; split <;> omega
      obtain ⟨b, o, s⟩ := a
      have hs : s = none := by
        obtain ⟨cs, h1, -⟩ := hx 0 (by omega)
        obtain ⟨-, hl, hc⟩ := World.cells?_some h1
        have h2 := hc 0 hsz
        rw [List.getElem?_eq_getElem (by omega)] at h2
        cases s with
        | none => rfl
        | some s =>
          simp [World.cell?, Addr.add] at h2
          split at h2 <;> simp at h2
      subst hs
      refine ⟨b, o, l0, c0, rfl, by omega, fun i hi => ?_⟩
      obtain ⟨cs, h1, h2⟩ := hx i (by omega)
      obtain ⟨-, hl, hc⟩ := World.cells?_some h1
      refine ⟨cs, n, _, hl, fun j hj => ?_, h2⟩
      rw [← hc j hj, Addr.add_lit, Addr.add_lit, Nat.add_assoc]

/-- So the argument reads as a list of plain elements. -/
theorem open_list {α : Type} {t e : TypeId} {v : Value} {d : DataW H} {ps : List MemPlace} {size : Nat} {cells : α → List Value} {good : α → Prop} (ht : P.underlying t = some (.slice e)) (he : P.cellsOf e = size) (hsz : 0 < size)
    (h : DataW.Trod enc P W 0 (fun _ => true) true t v d ps) (hv : ∃ a l c, v = .slice a l c)
    (hel : ∀ cs n x, cs.length = size → DataW.trod enc P W 0 (fun _ => true) true n e cs = some x → ∃ y : α, cs = cells y ∧ good y) :
    ∃ xs : List α, RdL W v size cells xs ∧ xs.length ≤ maxLen ∧ ∀ y ∈ xs, good y := by
  rcases open_rows ht (by omega) h hv with ⟨a, c, rfl⟩ | ⟨b, o, len, cap, rfl, hlm, hx⟩
  · exact ⟨[], ⟨Or.inl ⟨rfl, _, _, rfl⟩⟩, by simp, by simp⟩
  · by_cases h0 : len = 0
    · subst h0
      exact ⟨[], ⟨Or.inl ⟨rfl, _, _, rfl⟩⟩, by simp, by simp⟩
    have hy : ∀ i, i < len → ∃ y : α, (∀ j, j < size → W.cell? ⟨b, o + (i * size + j), none⟩ = (cells y)[j]?) ∧ good y := fun i hi => by
      obtain ⟨cs, n, x, hl, hc, htr⟩ := hx i hi
      rw [he] at hl hc
      obtain ⟨y, rfl, hg⟩ := hel cs n x hl htr
      exact ⟨y, hc, hg⟩
    have key : ∀ m, m ≤ len → ∃ xs : List α, xs.length = m ∧ (∀ i (hi : i < xs.length) j, j < size → W.cell? ⟨b, o + (i * size + j), none⟩ = (cells xs[i])[j]?) ∧ ∀ y ∈ xs, good y := by
      intro m
      induction m with
      | zero => intro _; exact ⟨[], rfl, by simp, by simp⟩
      | succ m ih =>
        intro hm
        obtain ⟨xs, hl, hc, hg⟩ := ih (by omega)
        obtain ⟨y, hyc, hyg⟩ := hy m (by omega)
        refine ⟨xs ++ [y], by simp [hl], fun i hi j hj => ?_, ?_⟩
        · by_cases him : i < xs.length
          · rw [List.getElem_append_left him]; exact hc i him j hj
          · have : i = m := by simp at hi; omega
            subst this
            rw [List.getElem_append_right (by omega)]
            simpa [hl] using hyc j hj
        · intro z hz
          rcases List.mem_append.1 hz with hz | hz
          · exact hg z hz
          · simp at hz; subst hz; exact hyg
    obtain ⟨xs, hl, hc, hg⟩ := key len (Nat.le_refl _)
    exact ⟨xs, ⟨Or.inr ⟨b, o, cap, by rw [hl], hc⟩⟩, by omega, hg⟩
end

def Fits (x : Int) : Prop := -9223372036854775808 ≤ x ∧ x ≤ 9223372036854775807
theorem cells_int : Tryd.prog.cellsOf 3 = 1 := by kernel_rfl
theorem el_int {H : Type} {enc : TypeId × Value → H} {W : World} {cs : List Value} {n : Nat} {x : DataW H × List MemPlace} (h : DataW.trod enc Tryd.prog W 0 (fun _ => true) true n 3 cs = some x) :
    ∃ y : Int, cs = [.int .i64 y] ∧ Fits y := by
  obtain ⟨a, rfl, -, wa⟩ := DataW.trod_int Tryd.underlying3 h
  exact ⟨a, rfl, bounds_i64 wa⟩
theorem RdL.toRd {α : Type} {w : World} {v : Value} {f : α → Value} {cells : α → List Value} {xs : List α} (h : RdL w v 1 cells xs) (hc : ∀ x, cells x = [f x]) : Rd w v xs.length 1 (xs.map f) := by
  refine ⟨by simp, ?_⟩
  rcases h.cells with ⟨rfl, ao, c, rfl⟩ | ⟨b, o, c, rfl, hx⟩
  · exact Or.inl ⟨rfl, _, _, rfl⟩
  · refine Or.inr ⟨b, o, c, rfl, fun j hj => ?_⟩
    have := hx j (by omega) 0 (by omega)
    rw [hc] at this
    simp only [Nat.mul_one, Nat.add_zero] at this
    rw [this]
    have hjl : j < xs.length := by omega
    simp [hjl]

section
variable {H : Type} {enc : TypeId × Value → H} {P : Program} {W : World}
theorem trod_fld {t : TypeId} {fs : Array Field} {fuel : Nat} {cs : List Value} {x : DataW H × List MemPlace} (hs : P.underlying t = some (.struct fs)) (hone : oneCellFields P fs = true)
    (h : DataW.trod enc P W 0 (fun _ => true) true fuel t cs = some x) (j : Nat) (f : Field) (hj : fs[j]? = some f) (c : Value) (hc : cs[j]? = some c) : ∃ n y, DataW.trod enc P W 0 (fun _ => true) true n f.type [c] = some y := by
  obtain ⟨ys, n, -, -, hcl, hyl, hf⟩ := DataW.trod_struct hs h
  obtain ⟨ho, hk⟩ := hone_of hone j f hj
  have hjl : j < fs.size := (Array.getElem?_eq_some_iff.1 hj).1
  have h1 := hf j f hj
  rw [ho, hk] at h1
  have hjc : j < cs.length := by
    rcases Nat.lt_or_ge j cs.length with h | h
    · exact h
    · rw [List.getElem?_eq_none h] at hc; cases hc
  rw [List.getElem?_eq_getElem hjc] at hc
  have hone' : (cs.drop j).take 1 = [c] := by
    rw [List.drop_eq_getElem_cons hjc]
    simp only [Option.some.injEq] at hc
    rw [hc]
    rfl
  rw [hone', List.getElem?_eq_getElem (by omega)] at h1
  exact ⟨n, _, h1⟩
/-- A field that is a slice of plain elements. -/
theorem open_cell_list {α : Type} {t e : TypeId} {c : Value} {n : Nat} {x : DataW H × List MemPlace} {f : α → Value} {good : α → Prop} (ht : P.underlying t = some (.slice e)) (he : P.cellsOf e = 1)
    (h : DataW.trod enc P W 0 (fun _ => true) true n t [c] = some x)
    (hel : ∀ cs n x, cs.length = 1 → DataW.trod enc P W 0 (fun _ => true) true n e cs = some x → ∃ y : α, cs = [f y] ∧ good y) :
    ∃ xs : List α, Rd W c xs.length 1 (xs.map f) ∧ xs.length ≤ maxLen ∧ ∀ y ∈ xs, good y := by
  have hv : ∃ a l cp, c = .slice a l cp := by
    rcases open_slice ht h with ⟨hcs, -⟩ | ⟨a, len, cap, m, n, D, Pl, hcs, -⟩
    · simp at hcs; exact ⟨_, _, _, hcs⟩
    · simp at hcs; exact ⟨_, _, _, hcs⟩
  obtain ⟨a, l, cp, rfl⟩ := hv
  obtain ⟨xs, hr, hl, hg⟩ := open_list (cells := fun y => [f y]) (good := good) ht he (by omega) (v := .slice a l cp) (d := x.1) (ps := x.2) ⟨n, h⟩ ⟨a, l, cp, rfl⟩ hel
  exact ⟨xs, hr.toRd (fun _ => rfl), hl, hg⟩
end

theorem cells_string : Tryd.prog.cellsOf 9 = 1 := by kernel_rfl
theorem el_string {H : Type} {enc : TypeId × Value → H} {W : World} {cs : List Value} {n : Nat} {x : DataW H × List MemPlace} (h : DataW.trod enc Tryd.prog W 0 (fun _ => true) true n 9 cs = some x) :
    ∃ y : List UInt8, cs = [.string ⟨y.toArray⟩] ∧ y.length ≤ maxLen := by
  obtain ⟨s, rfl, -, hs⟩ := DataW.trod_string Tryd.underlying9 h
  obtain ⟨l, rfl⟩ := str_of s
  exact ⟨l, rfl, by rw [str_size] at hs; exact hs⟩

end Go.Proofs.YtebocnpbiiejmaaDoor
