/- What is known behind the statement that copies a raw command's word, in whatever order its parts were done. -/
import Derived.Test.YtfnhcnmlaginoaaAppOwn
import Derived.Test.YtfnhcnmlaginoaaStore10
import Derived.Test.YtfnhcnmlaginoaaCmdG2
namespace Go.Proofs.Ytfnhcnmlaginoaa
open Go.RowKit

theorem src_strs {P : Program} {w : World} {t e : TypeId} (ht : P.underlying t = some (.slice e)) {v : Value} {ss : List (List UInt8)} (h : Rd w v ss.length 1 (strsV ss)) : Src P 1 t v ss.length (strsV ss) w := by
  have h1 : ∀ u ∈ strsV ss, u.oneCell' = true := by
    intro u hu
    obtain ⟨_, _, rfl⟩ := List.mem_map.1 hu
    rfl
  rcases h.cells with ⟨h0, ao, c, rfl⟩ | ⟨b, o, c, rfl, hc⟩
  · have : ss = [] := List.eq_nil_of_length_eq_zero h0
    subst this
    cases ao with
    | none => exact Src.ofNil w ht c
    | some a => exact Src.ofSlice w ht a 0 c [] rfl (fun j u hj => by simp at hj) (fun u hu => by cases hu)
  · refine Src.ofSlice w ht ⟨b, o, none⟩ ss.length c (strsV ss) (by simp) (fun j u hj => ?_) h1
    have hjl : j < ss.length := by
      rcases Nat.lt_or_ge j (strsV ss).length with h | h
      · simpa using h
      · rw [List.getElem?_eq_none h] at hj; cases hj
    rw [Addr.add_lit, ← hj]
    exact hc j (by omega)

theorem own_a {w w4 : World} {T : TypeId} {n c : Nat} (hf : Frm (Own (.slice (some ⟨w.heap.size, 0, none⟩) n c)) (w.alloc (.cells #[] T)).drew w4) : Frm No w w4 :=
  ((Frm.refl No w).alloc _).drew.trans hf (fun _ _ h => h) (fun i hi e => by
    simp only [Own, Value.ownBlock, Option.some.injEq] at e
    omega)
theorem own_b {w w4 : World} {T U : TypeId} {cs : Array Value} {n c : Nat} (hf : Frm (Own (.slice (some ⟨w.heap.size, 0, none⟩) n c)) ((w.alloc (.cells #[] T)).alloc (.cells cs U)).drew w4) {v4 : Value} (hv : v4.ownBlock = (Value.slice (some ⟨w.heap.size, 0, none⟩) n c).ownBlock ∨ ∃ k, v4.ownBlock = some k ∧ ((w.alloc (.cells #[] T)).alloc (.cells cs U)).drew.heap.size ≤ k) :
    Frm No w w4 ∧ (∀ j, w4.cell? ⟨w.heap.size + 1, j, none⟩ = cs[j]?) ∧ (∀ j, w4.frozen? ⟨w.heap.size + 1, j, none⟩ = false) ∧ ∀ k, v4.ownBlock = some k → k ≠ w.heap.size + 1 := by
  have hn : ¬ Own (.slice (some ⟨w.heap.size, 0, none⟩) n c) (w.heap.size + 1) := fun e => by
    simp only [Own, Value.ownBlock, Option.some.injEq] at e
    omega
  refine ⟨(((Frm.refl No w).alloc _).alloc _).drew.trans hf (fun _ _ h => h) (fun i hi e => by
    simp only [Own, Value.ownBlock, Option.some.injEq] at e
    omega), fun j => ?_, fun j => ?_, fun k hk e => ?_⟩
  · rw [hf.cell (p := ⟨w.heap.size + 1, j, none⟩) (by simp) hn]
    exact World.cell?_alloc_at _ _ _ _ (by simp)
  · rw [hf.frozen (p := ⟨w.heap.size + 1, j, none⟩) (by simp) hn]
    exact World.frozen?_alloc_at _ _ _ _ (by simp)
  · rcases hv with h | ⟨k', h, h'⟩
    · rw [h] at hk
      simp only [Value.ownBlock, Option.some.injEq] at hk
      omega
    · rw [h] at hk
      simp only [Option.some.injEq] at hk
      simp at h'
      omega
theorem own_c {w w4 : World} {T U : TypeId} {cs : Array Value} {n c : Nat} (hf : Frm (Own (.slice (some ⟨w.heap.size + 1, 0, none⟩) n c)) ((w.alloc (.cells cs U)).alloc (.cells #[] T)).drew w4) {v4 : Value} (hv : v4.ownBlock = (Value.slice (some ⟨w.heap.size + 1, 0, none⟩) n c).ownBlock ∨ ∃ k, v4.ownBlock = some k ∧ ((w.alloc (.cells cs U)).alloc (.cells #[] T)).drew.heap.size ≤ k) :
    Frm No w w4 ∧ (∀ j, w4.cell? ⟨w.heap.size, j, none⟩ = cs[j]?) ∧ (∀ j, w4.frozen? ⟨w.heap.size, j, none⟩ = false) ∧ ∀ k, v4.ownBlock = some k → k ≠ w.heap.size := by
  have hn : ¬ Own (.slice (some ⟨w.heap.size + 1, 0, none⟩) n c) w.heap.size := fun e => by
    simp only [Own, Value.ownBlock, Option.some.injEq] at e
    omega
  refine ⟨(((Frm.refl No w).alloc _).alloc _).drew.trans hf (fun _ _ h => h) (fun i hi e => by
    simp only [Own, Value.ownBlock, Option.some.injEq] at e
    omega), fun j => ?_, fun j => ?_, fun k hk e => ?_⟩
  · rw [hf.cell (p := ⟨w.heap.size, j, none⟩) (by simp; omega) hn]
    exact (((Frm.refl No _).alloc _).cell (p := ⟨w.heap.size, j, none⟩) (by simp) (fun h => h)).trans (World.cell?_alloc_at _ _ _ _ rfl)
  · rw [hf.frozen (p := ⟨w.heap.size, j, none⟩) (by simp; omega) hn]
    exact (((Frm.refl No _).alloc _).frozen (p := ⟨w.heap.size, j, none⟩) (by simp) (fun h => h)).trans (World.frozen?_alloc_at _ _ _ _ rfl)
  · rcases hv with h | ⟨k', h, h'⟩
    · rw [h] at hk
      simp only [Value.ownBlock, Option.some.injEq] at hk
      omega
    · rw [h] at hk
      simp only [Option.some.injEq] at hk
      simp at h'
      omega
theorem own_empty_c {w : World} {base : Nat} {size : Nat} {o : Obj} (T : TypeId) (hb : base ≤ w.heap.size) : ((w.alloc o).alloc (.cells #[] T)).ownsRow base T size (.slice (some ⟨w.heap.size + 1, 0, none⟩) 0 0) 0 [] := by
  have := own_empty (w := w.alloc o) (base := base) (size := size) T (by simp; omega)
  simpa using this

/-- The command that was made of a raw one lies in a block made since w2, its word in a row of its own. -/
def RawCopied (c : Cm) (w2 wq : World) (p : Value) : Prop := ∃ C ao cp, p = .pointer (some ⟨C, 0, none⟩) ∧ Frm No w2 wq ∧ w2.heap.size ≤ C ∧ C < wq.heap.size ∧ (∀ j, j < 10 → wq.cell? ⟨C, j, none⟩ = #[.int .i64 c.kind, .string ⟨c.who.toArray⟩, .string ⟨c.name.toArray⟩, .string ⟨c.other.toArray⟩, .string ⟨c.text.toArray⟩, .slice ao c.word.length cp, .int .i64 c.n0, .int .i64 c.n1, .int .i64 c.n2, .int .i64 c.n3][j]?) ∧ Rd wq (.slice ao c.word.length cp) c.word.length 1 (strsV c.word)
theorem copied_a {c : Cm} {w2 w4 : World} {base : Nat} {e T : TypeId} {ao : Option Addr} {cp : Nat} (hf : Frm No w2 w4) (ho : w4.ownsRow base e 1 (.slice ao c.word.length cp) c.word.length (strsV c.word)) :
    RawCopied c w2 (w4.alloc (.cells #[.int .i64 c.kind, .string ⟨c.who.toArray⟩, .string ⟨c.name.toArray⟩, .string ⟨c.other.toArray⟩, .string ⟨c.text.toArray⟩, .slice ao c.word.length cp, .int .i64 c.n0, .int .i64 c.n1, .int .i64 c.n2, .int .i64 c.n3] T)) (.pointer (some ⟨w4.heap.size, 0, none⟩)) :=
  ⟨_, _, _, rfl, hf.alloc _, hf.size, by simp, fun j _ => World.cell?_alloc_at _ _ _ _ rfl, (Rd.ofOwn ho).frm (S := No) ((Frm.refl _ _).alloc _) (fun _ _ h => h)⟩
theorem copied_b {c : Cm} {w2 w4 : World} {base C : Nat} {e : TypeId} {ao : Option Addr} {cp : Nat} (hf : Frm No w2 w4) (ho : w4.ownsRow base e 1 (.slice ao c.word.length cp) c.word.length (strsV c.word)) (hC : w2.heap.size ≤ C)
    (hv : ∀ k, (Value.slice ao c.word.length cp).ownBlock = some k → k ≠ C) {cs : Array Value} (hsz : 10 ≤ cs.size) (hc : ∀ j, w4.cell? ⟨C, j, none⟩ = cs[j]?) :
    RawCopied c w2 ((((((((((w4.setCell ⟨C, 0, none⟩ (.int .i64 c.kind)).setCell ⟨C, 1, none⟩ (.string ⟨c.who.toArray⟩)).setCell ⟨C, 2, none⟩ (.string ⟨c.name.toArray⟩)).setCell ⟨C, 3, none⟩ (.string ⟨c.other.toArray⟩)).setCell ⟨C, 4, none⟩ (.string ⟨c.text.toArray⟩)).setCell ⟨C, 5, none⟩ (.slice ao c.word.length cp)).setCell ⟨C, 6, none⟩ (.int .i64 c.n0)).setCell ⟨C, 7, none⟩ (.int .i64 c.n1)).setCell ⟨C, 8, none⟩ (.int .i64 c.n2)).setCell ⟨C, 9, none⟩ (.int .i64 c.n3)) (.pointer (some ⟨C, 0, none⟩)) := by
  have g : ∀ j (h : j < 10), w4.cell? ⟨C, j, none⟩ = some (cs[j]'(by omega)) := fun j h => by rw [hc j, Array.getElem?_eq_getElem]
  obtain ⟨z0, z1, z2, z3, z4, z5, z6, z7, z8, z9⟩ := store10_cell (g 0 (by omega)) (g 1 (by omega)) (g 2 (by omega)) (g 3 (by omega)) (g 4 (by omega)) (g 5 (by omega)) (g 6 (by omega)) (g 7 (by omega)) (g 8 (by omega)) (g 9 (by omega)) (.int .i64 c.kind) (.string ⟨c.who.toArray⟩) (.string ⟨c.name.toArray⟩) (.string ⟨c.other.toArray⟩) (.string ⟨c.text.toArray⟩) (.slice ao c.word.length cp) (.int .i64 c.n0) (.int .i64 c.n1) (.int .i64 c.n2) (.int .i64 c.n3)
  have hone := store10_one (w1 := w4) (B := C) (.int .i64 c.kind) (.string ⟨c.who.toArray⟩) (.string ⟨c.name.toArray⟩) (.string ⟨c.other.toArray⟩) (.string ⟨c.text.toArray⟩) (.slice ao c.word.length cp) (.int .i64 c.n0) (.int .i64 c.n1) (.int .i64 c.n2) (.int .i64 c.n3)
  have hl := World.block_lt_of_cell? w4 _ (g 0 (by omega))
  refine ⟨C, ao, cp, rfl, store10 hf hC _ _ _ _ _ _ _ _ _ _, hC, Nat.lt_of_lt_of_le hl hone.size, fun j hj => ?_, (Rd.ofOwn ho).frm hone (fun k hk e => hv k hk e)⟩
  match j, hj with
  | 0, _ => exact z0
  | 1, _ => exact z1
  | 2, _ => exact z2
  | 3, _ => exact z3
  | 4, _ => exact z4
  | 5, _ => exact z5
  | 6, _ => exact z6
  | 7, _ => exact z7
  | 8, _ => exact z8
  | 9, _ => exact z9
end Go.Proofs.Ytfnhcnmlaginoaa
