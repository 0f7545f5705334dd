/- Ten cells stored at once; and what reading needs besides. -/
import Derived.Test.YtjhodcdjkokkoaaRdr
import Derived.Test.YtjhodcdjkokkoaaCmdLaw
namespace Go.Proofs.Ytjhodcdjkokkoaa
open Go.RowKit

theorem Rdr.no {w0 wS w1 w2 : World} {b C : Nat} {s : List UInt8} {e : Int} {cs : List Value} (h : Rdr w0 wS w1 b s e C cs) (hf : Frm No w1 w2) : Rdr w0 wS w2 b s e C cs :=
  have hC : C < w1.heap.size := Nat.lt_of_lt_of_le h.lC h.mov.size
  ⟨h.in_.frm hf (fun h => h), h.len, h.hb, h.hC, h.lb, h.lC, h.ne, fun j => (hf.cell (p := ⟨C, j, none⟩) hC (fun e => e)).trans (h.cell j), fun j => (hf.frozen (p := ⟨C, j, none⟩) hC (fun e => e)).trans (h.fr j),
    h.base, h.mov.thenNo hf⟩
namespace Cmd
theorem fin_err {c : Cm} {s : List UInt8} {e : Int} (h : e ≠ 0) : fin (c, s, e) = (none_, e) := if_pos h
theorem fin_form {c : Cm} {s : List UInt8} (h : good c = false) : fin (c, s, 0) = (none_, 2) := by
  unfold fin
  rw [if_neg (by simp), if_pos h]
theorem fin_more {c : Cm} {s : List UInt8} (h : good c = true) (hs : s ≠ []) : fin (c, s, 0) = (none_, 4) := by
  unfold fin
  rw [if_neg (by simp), if_neg (by rw [h]; simp), if_pos hs]
theorem fin_ok {c : Cm} (h : good c = true) : fin (c, [], 0) = (c, 0) := by
  unfold fin
  rw [if_neg (by simp), if_neg (by rw [h]; simp), if_neg (by simp)]
end Cmd
theorem ownsRow_max {w : World} {base : Nat} {e : TypeId} {size : Nat} {v : Value} {n : Nat} {xs : List Value} (h : w.ownsRow base e size v n xs) : n ≤ 9223372036854775807 := by
  rcases h.2 with ⟨rfl, rfl⟩ | ⟨g, cap, cur, rfl, _, _, h1, h2, _⟩
  · exact Nat.zero_le _
  · unfold maxLen at h2
    omega
theorem InAt.new (w : World) (T : TypeId) (s : List UInt8) : InAt (w.alloc (.cells #[.string ⟨s.toArray⟩, .int .i64 0] T)) w.heap.size s 0 :=
  ⟨by rw [World.cell?_alloc_at _ _ _ _ rfl]; rfl, by rw [World.cell?_alloc_at _ _ _ _ rfl]; rfl, fun j => World.frozen?_alloc_at _ _ _ _ rfl⟩
theorem Rdr.begin {w0 w1 : World} {o : Obj} {s : List UInt8} {e : Int} (hi : InAt w1 w0.heap.size s e) (hl : s.length ≤ 281474976710656) (hf : Frm (One w0.heap.size) (w0.alloc o) w1) (cs : List Value) (T : TypeId) :
    Rdr w0 (w1.alloc (.cells cs.toArray T)) (w1.alloc (.cells cs.toArray T)) w0.heap.size s e w1.heap.size cs :=
  Rdr.start hi hl (Nat.le_refl _) (((Frm.refl No w0).alloc o).trans hf (fun _ _ h => h) (fun i hi h => by have : i = w0.heap.size := h; omega)) cs T
theorem InAt.new2 (w : World) (o : Obj) (T : TypeId) (s : List UInt8) : InAt ((w.alloc o).alloc (.cells #[.string ⟨s.toArray⟩, .int .i64 0] T)) (w.heap.size + 1) s 0 := by
  have := InAt.new (w.alloc o) T s
  simpa using this
theorem Rdr.begin2 {w w1 : World} {o o2 : Obj} {s : List UInt8} {e : Int} (hi : InAt w1 (w.heap.size + 1) s e) (hl : s.length ≤ 281474976710656) (hf : Frm (One (w.heap.size + 1)) ((w.alloc o).alloc o2) w1) (cs : List Value) (T : TypeId) :
    Rdr (w.alloc o) (w1.alloc (.cells cs.toArray T)) (w1.alloc (.cells cs.toArray T)) (w.heap.size + 1) s e w1.heap.size cs := by
  have e : (w.alloc o).heap.size = w.heap.size + 1 := by simp
  rw [← e] at hi hf ⊢
  exact Rdr.begin hi hl hf cs T
theorem rint0 {w1 : World} {b : Nat} {s s' : List UInt8} {e' n : Int} (h : InAt w1 b s 0) (hl : s.length ≤ 281474976710656) (hr : Oct.rInt s 0 = (n, s', e')) :
    Calls Try.prog 43 #[.pointer (some ⟨b, 0, none⟩)] w1 fun r w' => r = .returned (.int .i64 n) ∧ InAt w' b s' e' ∧ Frm (One b) w1 w' ∧ s'.length ≤ 281474976710656 := by
  refine (ref_int b s 0 w1 h hl).mono ?_
  have h2 := rInt_len s 0
  rw [hr] at h2 ⊢
  rintro r w2 ⟨rfl, hi, hf⟩
  exact ⟨rfl, hi, hf, Nat.le_trans h2 hl⟩
theorem bx_frozen {w w1 : World} {cs : Array Value} {T : TypeId} (h : Frm No (w.alloc (.cells cs T)) w1) (j : Nat) : w1.frozen? ⟨w.heap.size, j, none⟩ = false :=
  (h.frozen (p := ⟨w.heap.size, j, none⟩) (by simp) (fun h => h)).trans (World.frozen?_alloc_at _ _ _ _ rfl)
theorem setCell_none {w : World} {B j : Nat} (x : Value) : Frm (One B) w (w.setCell ⟨B, j, none⟩ x) := (Frm.refl (One B) w).setCell (p := ⟨B, j, none⟩) (fun _ => rfl) x
theorem store10_one {w1 : World} {B : Nat} (x0 x1 x2 x3 x4 x5 x6 x7 x8 x9 : Value) : Frm (One B) w1 ((((((((((w1.setCell ⟨B, 0, none⟩ x0).setCell ⟨B, 1, none⟩ x1).setCell ⟨B, 2, none⟩ x2).setCell ⟨B, 3, none⟩ x3).setCell ⟨B, 4, none⟩ x4).setCell ⟨B, 5, none⟩ x5).setCell ⟨B, 6, none⟩ x6).setCell ⟨B, 7, none⟩ x7).setCell ⟨B, 8, none⟩ x8).setCell ⟨B, 9, none⟩ x9) :=
  (((((((((setCell_none x0).then_ (setCell_none x1)).then_ (setCell_none x2)).then_ (setCell_none x3)).then_ (setCell_none x4)).then_ (setCell_none x5)).then_ (setCell_none x6)).then_ (setCell_none x7)).then_ (setCell_none x8)).then_ (setCell_none x9)
theorem store10 {w w1 : World} {B : Nat} (hf : Frm No w w1) (hB : w.heap.size ≤ B) (x0 x1 x2 x3 x4 x5 x6 x7 x8 x9 : Value) : Frm No w ((((((((((w1.setCell ⟨B, 0, none⟩ x0).setCell ⟨B, 1, none⟩ x1).setCell ⟨B, 2, none⟩ x2).setCell ⟨B, 3, none⟩ x3).setCell ⟨B, 4, none⟩ x4).setCell ⟨B, 5, none⟩ x5).setCell ⟨B, 6, none⟩ x6).setCell ⟨B, 7, none⟩ x7).setCell ⟨B, 8, none⟩ x8).setCell ⟨B, 9, none⟩ x9) :=
  hf.trans (store10_one x0 x1 x2 x3 x4 x5 x6 x7 x8 x9) (fun _ _ h => h) (fun i hi h => by have : i = B := h; omega)
theorem setCell_keep {w : World} {B i j : Nat} {v : Value} (x : Value) (hij : j ≠ i) (h : w.cell? ⟨B, i, none⟩ = some v) : (w.setCell ⟨B, j, none⟩ x).cell? ⟨B, i, none⟩ = some v := by
  rw [World.cell?_setCell_other w ⟨B, j, none⟩ ⟨B, i, none⟩ x (by intro e; injection e with _ e; omega)]
  exact h
theorem setCell_get {w : World} {B i : Nat} {v : Value} (x : Value) (h : w.cell? ⟨B, i, none⟩ = some v) : (w.setCell ⟨B, i, none⟩ x).cell? ⟨B, i, none⟩ = some x :=
  World.cell?_setCell_same' w ⟨B, i, none⟩ x (by rw [h]; rfl)
theorem store10_cell {w1 : World} {B : Nat} {y0 y1 y2 y3 y4 y5 y6 y7 y8 y9 : Value} (h0 : w1.cell? ⟨B, 0, none⟩ = some y0) (h1 : w1.cell? ⟨B, 1, none⟩ = some y1) (h2 : w1.cell? ⟨B, 2, none⟩ = some y2) (h3 : w1.cell? ⟨B, 3, none⟩ = some y3) (h4 : w1.cell? ⟨B, 4, none⟩ = some y4) (h5 : w1.cell? ⟨B, 5, none⟩ = some y5) (h6 : w1.cell? ⟨B, 6, none⟩ = some y6) (h7 : w1.cell? ⟨B, 7, none⟩ = some y7) (h8 : w1.cell? ⟨B, 8, none⟩ = some y8) (h9 : w1.cell? ⟨B, 9, none⟩ = some y9) (x0 x1 x2 x3 x4 x5 x6 x7 x8 x9 : Value) :
    ((((((((((w1.setCell ⟨B, 0, none⟩ x0).setCell ⟨B, 1, none⟩ x1).setCell ⟨B, 2, none⟩ x2).setCell ⟨B, 3, none⟩ x3).setCell ⟨B, 4, none⟩ x4).setCell ⟨B, 5, none⟩ x5).setCell ⟨B, 6, none⟩ x6).setCell ⟨B, 7, none⟩ x7).setCell ⟨B, 8, none⟩ x8).setCell ⟨B, 9, none⟩ x9).cell? ⟨B, 0, none⟩ = some x0 ∧ ((((((((((w1.setCell ⟨B, 0, none⟩ x0).setCell ⟨B, 1, none⟩ x1).setCell ⟨B, 2, none⟩ x2).setCell ⟨B, 3, none⟩ x3).setCell ⟨B, 4, none⟩ x4).setCell ⟨B, 5, none⟩ x5).setCell ⟨B, 6, none⟩ x6).setCell ⟨B, 7, none⟩ x7).setCell ⟨B, 8, none⟩ x8).setCell ⟨B, 9, none⟩ x9).cell? ⟨B, 1, none⟩ = some x1 ∧ ((((((((((w1.setCell ⟨B, 0, none⟩ x0).setCell ⟨B, 1, none⟩ x1).setCell ⟨B, 2, none⟩ x2).setCell ⟨B, 3, none⟩ x3).setCell ⟨B, 4, none⟩ x4).setCell ⟨B, 5, none⟩ x5).setCell ⟨B, 6, none⟩ x6).setCell ⟨B, 7, none⟩ x7).setCell ⟨B, 8, none⟩ x8).setCell ⟨B, 9, none⟩ x9).cell? ⟨B, 2, none⟩ = some x2 ∧ ((((((((((w1.setCell ⟨B, 0, none⟩ x0).setCell ⟨B, 1, none⟩ x1).setCell ⟨B, 2, none⟩ x2).setCell ⟨B, 3, none⟩ x3).setCell ⟨B, 4, none⟩ x4).setCell ⟨B, 5, none⟩ x5).setCell ⟨B, 6, none⟩ x6).setCell ⟨B, 7, none⟩ x7).setCell ⟨B, 8, none⟩ x8).setCell ⟨B, 9, none⟩ x9).cell? ⟨B, 3, none⟩ = some x3 ∧ ((((((((((w1.setCell ⟨B, 0, none⟩ x0).setCell ⟨B, 1, none⟩ x1).setCell ⟨B, 2, none⟩ x2).setCell ⟨B, 3, none⟩ x3).setCell ⟨B, 4, none⟩ x4).setCell ⟨B, 5, none⟩ x5).setCell ⟨B, 6, none⟩ x6).setCell ⟨B, 7, none⟩ x7).setCell ⟨B, 8, none⟩ x8).setCell ⟨B, 9, none⟩ x9).cell? ⟨B, 4, none⟩ = some x4 ∧ ((((((((((w1.setCell ⟨B, 0, none⟩ x0).setCell ⟨B, 1, none⟩ x1).setCell ⟨B, 2, none⟩ x2).setCell ⟨B, 3, none⟩ x3).setCell ⟨B, 4, none⟩ x4).setCell ⟨B, 5, none⟩ x5).setCell ⟨B, 6, none⟩ x6).setCell ⟨B, 7, none⟩ x7).setCell ⟨B, 8, none⟩ x8).setCell ⟨B, 9, none⟩ x9).cell? ⟨B, 5, none⟩ = some x5 ∧ ((((((((((w1.setCell ⟨B, 0, none⟩ x0).setCell ⟨B, 1, none⟩ x1).setCell ⟨B, 2, none⟩ x2).setCell ⟨B, 3, none⟩ x3).setCell ⟨B, 4, none⟩ x4).setCell ⟨B, 5, none⟩ x5).setCell ⟨B, 6, none⟩ x6).setCell ⟨B, 7, none⟩ x7).setCell ⟨B, 8, none⟩ x8).setCell ⟨B, 9, none⟩ x9).cell? ⟨B, 6, none⟩ = some x6 ∧ ((((((((((w1.setCell ⟨B, 0, none⟩ x0).setCell ⟨B, 1, none⟩ x1).setCell ⟨B, 2, none⟩ x2).setCell ⟨B, 3, none⟩ x3).setCell ⟨B, 4, none⟩ x4).setCell ⟨B, 5, none⟩ x5).setCell ⟨B, 6, none⟩ x6).setCell ⟨B, 7, none⟩ x7).setCell ⟨B, 8, none⟩ x8).setCell ⟨B, 9, none⟩ x9).cell? ⟨B, 7, none⟩ = some x7 ∧ ((((((((((w1.setCell ⟨B, 0, none⟩ x0).setCell ⟨B, 1, none⟩ x1).setCell ⟨B, 2, none⟩ x2).setCell ⟨B, 3, none⟩ x3).setCell ⟨B, 4, none⟩ x4).setCell ⟨B, 5, none⟩ x5).setCell ⟨B, 6, none⟩ x6).setCell ⟨B, 7, none⟩ x7).setCell ⟨B, 8, none⟩ x8).setCell ⟨B, 9, none⟩ x9).cell? ⟨B, 8, none⟩ = some x8 ∧ ((((((((((w1.setCell ⟨B, 0, none⟩ x0).setCell ⟨B, 1, none⟩ x1).setCell ⟨B, 2, none⟩ x2).setCell ⟨B, 3, none⟩ x3).setCell ⟨B, 4, none⟩ x4).setCell ⟨B, 5, none⟩ x5).setCell ⟨B, 6, none⟩ x6).setCell ⟨B, 7, none⟩ x7).setCell ⟨B, 8, none⟩ x8).setCell ⟨B, 9, none⟩ x9).cell? ⟨B, 9, none⟩ = some x9 := by
  refine ⟨?_, ?_, ?_, ?_, ?_, ?_, ?_, ?_, ?_, ?_⟩
  · exact (setCell_keep x9 (by omega) (setCell_keep x8 (by omega) (setCell_keep x7 (by omega) (setCell_keep x6 (by omega) (setCell_keep x5 (by omega) (setCell_keep x4 (by omega) (setCell_keep x3 (by omega) (setCell_keep x2 (by omega) (setCell_keep x1 (by omega) (setCell_get x0 h0))))))))))
  · exact (setCell_keep x9 (by omega) (setCell_keep x8 (by omega) (setCell_keep x7 (by omega) (setCell_keep x6 (by omega) (setCell_keep x5 (by omega) (setCell_keep x4 (by omega) (setCell_keep x3 (by omega) (setCell_keep x2 (by omega) (setCell_get x1 (setCell_keep x0 (by omega) h1))))))))))
  · exact (setCell_keep x9 (by omega) (setCell_keep x8 (by omega) (setCell_keep x7 (by omega) (setCell_keep x6 (by omega) (setCell_keep x5 (by omega) (setCell_keep x4 (by omega) (setCell_keep x3 (by omega) (setCell_get x2 (setCell_keep x1 (by omega) (setCell_keep x0 (by omega) h2))))))))))
  · exact (setCell_keep x9 (by omega) (setCell_keep x8 (by omega) (setCell_keep x7 (by omega) (setCell_keep x6 (by omega) (setCell_keep x5 (by omega) (setCell_keep x4 (by omega) (setCell_get x3 (setCell_keep x2 (by omega) (setCell_keep x1 (by omega) (setCell_keep x0 (by omega) h3))))))))))
  · exact (setCell_keep x9 (by omega) (setCell_keep x8 (by omega) (setCell_keep x7 (by omega) (setCell_keep x6 (by omega) (setCell_keep x5 (by omega) (setCell_get x4 (setCell_keep x3 (by omega) (setCell_keep x2 (by omega) (setCell_keep x1 (by omega) (setCell_keep x0 (by omega) h4))))))))))
  · exact (setCell_keep x9 (by omega) (setCell_keep x8 (by omega) (setCell_keep x7 (by omega) (setCell_keep x6 (by omega) (setCell_get x5 (setCell_keep x4 (by omega) (setCell_keep x3 (by omega) (setCell_keep x2 (by omega) (setCell_keep x1 (by omega) (setCell_keep x0 (by omega) h5))))))))))
  · exact (setCell_keep x9 (by omega) (setCell_keep x8 (by omega) (setCell_keep x7 (by omega) (setCell_get x6 (setCell_keep x5 (by omega) (setCell_keep x4 (by omega) (setCell_keep x3 (by omega) (setCell_keep x2 (by omega) (setCell_keep x1 (by omega) (setCell_keep x0 (by omega) h6))))))))))
  · exact (setCell_keep x9 (by omega) (setCell_keep x8 (by omega) (setCell_get x7 (setCell_keep x6 (by omega) (setCell_keep x5 (by omega) (setCell_keep x4 (by omega) (setCell_keep x3 (by omega) (setCell_keep x2 (by omega) (setCell_keep x1 (by omega) (setCell_keep x0 (by omega) h7))))))))))
  · exact (setCell_keep x9 (by omega) (setCell_get x8 (setCell_keep x7 (by omega) (setCell_keep x6 (by omega) (setCell_keep x5 (by omega) (setCell_keep x4 (by omega) (setCell_keep x3 (by omega) (setCell_keep x2 (by omega) (setCell_keep x1 (by omega) (setCell_keep x0 (by omega) h8))))))))))
  · exact (setCell_get x9 (setCell_keep x8 (by omega) (setCell_keep x7 (by omega) (setCell_keep x6 (by omega) (setCell_keep x5 (by omega) (setCell_keep x4 (by omega) (setCell_keep x3 (by omega) (setCell_keep x2 (by omega) (setCell_keep x1 (by omega) (setCell_keep x0 (by omega) h9))))))))))
end Go.Proofs.Ytjhodcdjkokkoaa
