/- Whether two messages are the same. -/
import Derived.Test.YtaejcejfpcjifaaDoorMsgG3
namespace Go.Proofs.YtaejcejfpcjifaaDoor
open Go.RowKit
open Msg

def sameB (a b : Ms) : Bool := a.kind == b.kind && a.from_ == b.from_ && a.born == b.born && decide (a.known = b.known) && a.view == b.view && a.last == b.last && a.op == b.op && a.commit == b.commit && a.client == b.client && a.number == b.number && a.nonce == b.nonce && a.text == b.text && a.full == b.full && a.base == b.base && a.state == b.state && decide (a.entries = b.entries)
theorem sameB_eq (a b : Ms) : sameB a b = decide (a = b) := by
  obtain ⟨a0, a1, a2, a3, a4, a5, a6, a7, a8, a9, a10, a11, a12, a13, a14, a15⟩ := a
  obtain ⟨b0, b1, b2, b3, b4, b5, b6, b7, b8, b9, b10, b11, b12, b13, b14, b15⟩ := b
  rw [Bool.eq_iff_iff]
  simp [sameB, and_assoc]

theorem two_box1 {w w1 : World} {A B : Array Value} {T U : TypeId} (h : Frm No ((w.alloc (.cells A T)).alloc (.cells B U)) w1) (j : Nat) : w1.cell? ⟨w.heap.size, j, none⟩ = A[j]? :=
  Frm.box (((Frm.refl No (w.alloc (.cells A T))).alloc _).thenNo h) j
theorem two_box2 {w w1 : World} {A B : Array Value} {T U : TypeId} (h : Frm No ((w.alloc (.cells A T)).alloc (.cells B U)) w1) (j : Nat) : w1.cell? ⟨w.heap.size + 1, j, none⟩ = B[j]? := by
  have := h.box j
  simpa using this
set_option maxRecDepth 100000 in
set_option maxHeartbeats 8000000 in
theorem same_any (a b : Ms) (ka ea kb eb : Value) (w : World) (ha : MsR w a ka ea) (hb : MsR w b kb eb) (l1 : a.known.length ≤ 1000000) (l2 : b.known.length ≤ 1000000) (l3 : a.entries.length ≤ 1000000) (l4 : b.entries.length ≤ 1000000) :
    Calls Tryd.prog 48 #[msV a ka ea, msV b kb eb] w fun e w' => e = .returned (.bool (sameB a b)) ∧ Frm No w w' := by
  have HK := hid (fun w1 (hf : Frm No w w1) => equal_ints a.known b.known ka kb w1 (ha.no hf).kr (hb.no hf).kr (by omega) (by omega))
  have HE := hid (fun w1 (hf : Frm No w w1) => equal_ents a.entries b.entries ea eb w1 (ha.no hf).er (hb.no hf).er (by omega) (by omega))
  have HS : Hid (sameB a b = (a.kind == b.kind && a.from_ == b.from_ && a.born == b.born && decide (a.known = b.known) && a.view == b.view && a.last == b.last && a.op == b.op && a.commit == b.commit && a.client == b.client && a.number == b.number && a.nonce == b.nonce && a.text == b.text && a.full == b.full && a.base == b.base && a.state == b.state && decide (a.entries = b.entries))) := hid rfl
  generalize decide (a.known = b.known) = bk at *
  generalize decide (a.entries = b.entries) = be at *
  generalize sameB a b = R at *
  clear ha hb l1 l2 l3 l4
  unfold msV msC
  obtain ⟨a0, a1, a2, a3, a4, a5, a6, a7, a8, a9, a10, a11, a12, a13, a14, a15⟩ := a
  obtain ⟨b0, b1, b2, b3, b4, b5, b6, b7, b8, b9, b10, b11, b12, b13, b14, b15⟩ := b
  dsimp only at *
  clear a3 b3 a15 b15
  go_enter Tryd.func48, Tryd.ntmps48
  go_wp2_with (first | (go_at_call 64; refine (HK.out _ (((Frm.refl No w).alloc _).alloc _)).mono ?_; rintro e w1 ⟨rfl, hf1⟩; have qa := two_box1 hf1; have qb := two_box2 hf1) | (go_at_call 65; refine (HE.out _ ((((Frm.refl No w).alloc _).alloc _).thenNo hf1)).mono ?_; rintro e w2 ⟨rfl, hf2⟩))
  all_goals
    go_ret
    refine ⟨?_, by first | exact ((((Frm.refl No w).alloc _).alloc _).thenNo hf1).thenNo hf2 | exact (((Frm.refl No w).alloc _).alloc _).thenNo hf1 | exact ((Frm.refl No w).alloc _).alloc _⟩
    rw [HS.out]
    simp [*]
end Go.Proofs.YtaejcejfpcjifaaDoor
