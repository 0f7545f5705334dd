/- Seven cells stored at once; and what reading a reply needs besides. -/
import Derived.Test.YtjhodcdjkokkoaaStore10
import Derived.Test.YtjhodcdjkokkoaaRepLaw
namespace Go.Proofs.Ytjhodcdjkokkoaa
open Go.RowKit

theorem store7_one {w1 : World} {B : Nat} (x0 x1 x2 x3 x4 x5 x6 : Value) : Frm (One B) w1 (((((((w1.setCell ⟨B, 0, none⟩ x0).setCell ⟨B, 1, none⟩ x1).setCell ⟨B, 2, none⟩ x2).setCell ⟨B, 3, none⟩ x3).setCell ⟨B, 4, none⟩ x4).setCell ⟨B, 5, none⟩ x5).setCell ⟨B, 6, none⟩ x6) :=
  ((((((setCell_none x0).then_ (setCell_none x1)).then_ (setCell_none x2)).then_ (setCell_none x3)).then_ (setCell_none x4)).then_ (setCell_none x5)).then_ (setCell_none x6)
theorem store7 {w w1 : World} {B : Nat} (hf : Frm No w w1) (hB : w.heap.size ≤ B) (x0 x1 x2 x3 x4 x5 x6 : Value) : Frm No w (((((((w1.setCell ⟨B, 0, none⟩ x0).setCell ⟨B, 1, none⟩ x1).setCell ⟨B, 2, none⟩ x2).setCell ⟨B, 3, none⟩ x3).setCell ⟨B, 4, none⟩ x4).setCell ⟨B, 5, none⟩ x5).setCell ⟨B, 6, none⟩ x6) :=
  hf.trans (store7_one x0 x1 x2 x3 x4 x5 x6) (fun _ _ h => h) (fun i hi h => by have : i = B := h; omega)
theorem store7_cell {w1 : World} {B : Nat} {y0 y1 y2 y3 y4 y5 y6 : Value} (h0 : w1.cell? ⟨B, 0, none⟩ = some y0) (h1 : w1.cell? ⟨B, 1, none⟩ = some y1) (h2 : w1.cell? ⟨B, 2, none⟩ = some y2) (h3 : w1.cell? ⟨B, 3, none⟩ = some y3) (h4 : w1.cell? ⟨B, 4, none⟩ = some y4) (h5 : w1.cell? ⟨B, 5, none⟩ = some y5) (h6 : w1.cell? ⟨B, 6, none⟩ = some y6) (x0 x1 x2 x3 x4 x5 x6 : Value) :
    (((((((w1.setCell ⟨B, 0, none⟩ x0).setCell ⟨B, 1, none⟩ x1).setCell ⟨B, 2, none⟩ x2).setCell ⟨B, 3, none⟩ x3).setCell ⟨B, 4, none⟩ x4).setCell ⟨B, 5, none⟩ x5).setCell ⟨B, 6, none⟩ x6).cell? ⟨B, 0, none⟩ = some x0 ∧ (((((((w1.setCell ⟨B, 0, none⟩ x0).setCell ⟨B, 1, none⟩ x1).setCell ⟨B, 2, none⟩ x2).setCell ⟨B, 3, none⟩ x3).setCell ⟨B, 4, none⟩ x4).setCell ⟨B, 5, none⟩ x5).setCell ⟨B, 6, none⟩ x6).cell? ⟨B, 1, none⟩ = some x1 ∧ (((((((w1.setCell ⟨B, 0, none⟩ x0).setCell ⟨B, 1, none⟩ x1).setCell ⟨B, 2, none⟩ x2).setCell ⟨B, 3, none⟩ x3).setCell ⟨B, 4, none⟩ x4).setCell ⟨B, 5, none⟩ x5).setCell ⟨B, 6, none⟩ x6).cell? ⟨B, 2, none⟩ = some x2 ∧ (((((((w1.setCell ⟨B, 0, none⟩ x0).setCell ⟨B, 1, none⟩ x1).setCell ⟨B, 2, none⟩ x2).setCell ⟨B, 3, none⟩ x3).setCell ⟨B, 4, none⟩ x4).setCell ⟨B, 5, none⟩ x5).setCell ⟨B, 6, none⟩ x6).cell? ⟨B, 3, none⟩ = some x3 ∧ (((((((w1.setCell ⟨B, 0, none⟩ x0).setCell ⟨B, 1, none⟩ x1).setCell ⟨B, 2, none⟩ x2).setCell ⟨B, 3, none⟩ x3).setCell ⟨B, 4, none⟩ x4).setCell ⟨B, 5, none⟩ x5).setCell ⟨B, 6, none⟩ x6).cell? ⟨B, 4, none⟩ = some x4 ∧ (((((((w1.setCell ⟨B, 0, none⟩ x0).setCell ⟨B, 1, none⟩ x1).setCell ⟨B, 2, none⟩ x2).setCell ⟨B, 3, none⟩ x3).setCell ⟨B, 4, none⟩ x4).setCell ⟨B, 5, none⟩ x5).setCell ⟨B, 6, none⟩ x6).cell? ⟨B, 5, none⟩ = some x5 ∧ (((((((w1.setCell ⟨B, 0, none⟩ x0).setCell ⟨B, 1, none⟩ x1).setCell ⟨B, 2, none⟩ x2).setCell ⟨B, 3, none⟩ x3).setCell ⟨B, 4, none⟩ x4).setCell ⟨B, 5, none⟩ x5).setCell ⟨B, 6, none⟩ x6).cell? ⟨B, 6, none⟩ = some x6 := by
  refine ⟨?_, ?_, ?_, ?_, ?_, ?_, ?_⟩
  · exact (setCell_keep x6 (by omega) (setCell_keep x5 (by omega) (setCell_keep x4 (by omega) (setCell_keep x3 (by omega) (setCell_keep x2 (by omega) (setCell_keep x1 (by omega) (setCell_get x0 h0)))))))
  · exact (setCell_keep x6 (by omega) (setCell_keep x5 (by omega) (setCell_keep x4 (by omega) (setCell_keep x3 (by omega) (setCell_keep x2 (by omega) (setCell_get x1 (setCell_keep x0 (by omega) h1)))))))
  · exact (setCell_keep x6 (by omega) (setCell_keep x5 (by omega) (setCell_keep x4 (by omega) (setCell_keep x3 (by omega) (setCell_get x2 (setCell_keep x1 (by omega) (setCell_keep x0 (by omega) h2)))))))
  · exact (setCell_keep x6 (by omega) (setCell_keep x5 (by omega) (setCell_keep x4 (by omega) (setCell_get x3 (setCell_keep x2 (by omega) (setCell_keep x1 (by omega) (setCell_keep x0 (by omega) h3)))))))
  · exact (setCell_keep x6 (by omega) (setCell_keep x5 (by omega) (setCell_get x4 (setCell_keep x3 (by omega) (setCell_keep x2 (by omega) (setCell_keep x1 (by omega) (setCell_keep x0 (by omega) h4)))))))
  · exact (setCell_keep x6 (by omega) (setCell_get x5 (setCell_keep x4 (by omega) (setCell_keep x3 (by omega) (setCell_keep x2 (by omega) (setCell_keep x1 (by omega) (setCell_keep x0 (by omega) h5)))))))
  · exact (setCell_get x6 (setCell_keep x5 (by omega) (setCell_keep x4 (by omega) (setCell_keep x3 (by omega) (setCell_keep x2 (by omega) (setCell_keep x1 (by omega) (setCell_keep x0 (by omega) h6)))))))
/-- Marks as cells. -/
def fltV (l : List Nat) : List Value := l.map fun n => Value.float .f64 n
@[simp] theorem fltV_length (l : List Nat) : (fltV l).length = l.length := by simp [fltV]
theorem fltV_snoc (l : List Nat) (n : Nat) : fltV (l ++ [n]) = fltV l ++ [.float .f64 n] := by simp [fltV]
theorem info_float : (Try.prog.info? 86).map (fun i => (i.zero, i.size, i.bytes)) = some (some (.float .f64 0), 1, 8) := by kernel_rfl
theorem nTexts_count : ∀ (n : Nat) (s : List UInt8) (acc : List (List UInt8)), (Oct.nTexts n s acc).1.length ≤ acc.length + n := by
  intro n
  induction n with
  | zero => intro s acc; exact Nat.le_refl _
  | succ n ih =>
    intro s acc
    unfold Oct.nTexts
    split
    · have := ih (Oct.rText s 0).2.1 (acc ++ [(Oct.rText s 0).1])
      rw [List.length_append] at this
      simp only [List.length_cons, List.length_nil] at this
      omega
    · exact Nat.zero_le _
theorem rTexts_count (most : Int) (s : List UInt8) (e : Int) : (Oct.rTexts most s e).1.length ≤ 65536 := by
  unfold Oct.rTexts
  obtain ⟨⟨n, s1, e1⟩, hr⟩ : ∃ x, Oct.rSize most s e = x := ⟨_, rfl⟩
  rw [hr]
  dsimp only
  split
  · rename_i h1
    subst h1
    have h := rSize_inv hr
    have := nTexts_count n.toNat s1 []
    simp only [List.length_nil] at this
    omega
  · exact Nat.zero_le _
theorem pint0 {w1 : World} {b : Nat} {s s' : List UInt8} {e' n : Int} (h : InAt w1 b s 0) (hl : s.length ≤ 281474976710656) (hr : Oct.rInt s 0 = (n, s', e')) :
    Calls Try.prog 37 #[.pointer (some ⟨b, 0, none⟩)] w1 fun r w' => r = .returned (.int .i64 n) ∧ InAt w' b s' e' ∧ Frm (One b) w1 w' ∧ s'.length ≤ 281474976710656 := by
  refine (in_int b s 0 w1 h hl).mono ?_
  have h2 := rInt_len s 0
  rw [hr] at h2 ⊢
  rintro r w2 ⟨rfl, hi, hf⟩
  exact ⟨rfl, hi, hf, Nat.le_trans h2 hl⟩
theorem Rdr.begin3 {w0 w1 w2 : World} {b : Nat} {s : List UInt8} {e : Int} (hb : w0.heap.size ≤ b) (hi : InAt w2 b s e) (hl : s.length ≤ 281474976710656) (hf1 : Frm No w0 w1) (hf2 : Frm (One b) w1 w2) (cs : List Value) (T : TypeId) :
    Rdr w0 (w2.alloc (.cells cs.toArray T)) (w2.alloc (.cells cs.toArray T)) b s e w2.heap.size cs :=
  Rdr.start hi hl hb (hf1.trans hf2 (fun _ _ h => h) (fun i hi h => by have : i = b := h; omega)) cs T
theorem Rdr.grow {w0 wS w1 w2 : World} {b C : Nat} {s : List UInt8} {e : Int} {cs : List Value} {T : TypeId} {mv : Value} {n : Nat} {xs : List Value} (h : Rdr w0 wS w1 b s e C cs) (ho : w1.ownsRow wS.heap.size T 1 mv n xs) (hf : Frm (Own mv) w1 w2) : Rdr w0 wS w2 b s e C cs := by
  have hC : C < w1.heap.size := Nat.lt_of_lt_of_le h.lC h.mov.size
  have nb : ¬ Own mv b := fun e => by have := (ho.lt b e).1; have := h.lb; omega
  have nC : ¬ Own mv C := fun e => by have := (ho.lt C e).1; have := h.lC; omega
  exact ⟨h.in_.frm hf nb, h.len, h.hb, h.hC, h.lb, h.lC, h.ne, fun j => (hf.cell (p := ⟨C, j, none⟩) hC nC).trans (h.cell j), fun j => (hf.frozen (p := ⟨C, j, none⟩) hC nC).trans (h.fr j), h.base,
    h.mov.trans hf (fun _ _ h => h) (fun i hi e => by have := (ho.lt i e).1; omega)⟩
theorem row_set7 {w wS : World} {C : Nat} {T : TypeId} {mv : Value} {n : Nat} {xs : List Value} (ho : w.ownsRow wS.heap.size T 1 mv n xs) (hC : C < wS.heap.size) (j : Nat) (x : Value) : (w.setCell ⟨C, j, none⟩ x).ownsRow wS.heap.size T 1 mv n xs :=
  (setCell_none x).row ho (fun k hk e => by have := (ho.lt k hk).1; have e : k = C := e; omega)
def rpV (r : Rp) (tv mv : Value) : Value := .agg #[.int .i64 r.k, .int .i64 r.line, .int .i64 r.col, .int .i64 r.count, .string ⟨r.text.toArray⟩, tv, mv]
theorem marksOf_snoc {l : List (List UInt8)} {k : Nat} (hk : k < l.length) : Rep.marksOf (l.take (k + 1)) = Rep.marksOf (l.take k) ++ [(Mk.get l[k]).1] := by
  rw [List.take_succ_eq_append_getElem hk]
  unfold Rep.marksOf
  rw [List.map_append]
  rfl
theorem okM_snoc {l : List (List UInt8)} {k : Nat} (hk : k < l.length) : Rep.okM (l.take (k + 1)) = (Rep.okM (l.take k) && ((Mk.get l[k]).2 == 0)) := by
  rw [List.take_succ_eq_append_getElem hk]
  unfold Rep.okM
  rw [List.all_append, List.all_cons, List.all_nil, Bool.and_true]
theorem okM_no {l : List (List UInt8)} {k : Nat} (hk : k < l.length) (h : (Mk.get l[k]).2 ≠ 0) : Rep.okM l = false := by
  rw [Rep.okM, List.all_eq_false]
  exact ⟨l[k], List.getElem_mem hk, by simpa using h⟩
theorem marksOf_take_len {l : List (List UInt8)} {k : Nat} (hk : k ≤ l.length) : (Rep.marksOf (l.take k)).length = k := by
  simp [Rep.marksOf]; omega
end Go.Proofs.Ytjhodcdjkokkoaa
