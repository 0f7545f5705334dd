/- Spoiling a frame in the network and in the reference's list: the same frame comes of it. -/
import Derived.Test.YthbacebkidggdaaNetTwo
namespace Go.Proofs.Ythbacebkidggdaa
open Go.RowKit
open Spo

theorem spoil_turned (fs : List Fr) (x at_ : Int) (n : Nat) (hn32 : n ≤ 4294967295) (f : Fr) (hlk : look fs x = f) (h0 : 0 < fs.length) (hsm : fs.length ≤ 100000) (hbl : f.bytes.length ≤ 1000000) :
    ∃ (g : Fr) (ch : Bool), g.bytes.length = f.bytes.length ∧
      (∀ w, Calls Try.prog 9 #[.agg #[.int .i64 f.from_, .int .i64 f.to_, .string ⟨f.bytes.toArray⟩, .bool f.bad], .int .i64 at_, .int .u32 (n : Int)] w fun e w' => e = .returned (.tuple #[.agg #[.int .i64 g.from_, .int .i64 g.to_, .string ⟨g.bytes.toArray⟩, .bool g.bad], .bool ch]) ∧ Frm No w w') ∧
      (∀ b v w, NetAt w b v fs → Calls Try.prog 10 #[.pointer (some ⟨b, 0, none⟩), .int .i64 x, .int .i64 at_, .int .u32 (n : Int)] w fun e w' => e = .returned (.bool ch) ∧ ∃ v', NetPost b w v (fs.set (pl x fs.length) g) v' w') := by
  have hself : fs.set (pl x fs.length) f = fs := by
    rw [← hlk, look_at h0]
    exact List.set_getElem_self _
  by_cases hd : f.bytes = [] ∨ f.bad = true
  · refine ⟨f, false, rfl, fun w => turned_dead f hd at_ n w hbl, fun b v w h => ?_⟩
    rw [hself]
    exact (spoil_dead b v fs x at_ n f hlk hd w h h0 hsm).mono fun e w' ⟨he, hf⟩ => ⟨he, v, NetPost.same h hf⟩
  · have hd1 : f.bytes ≠ [] := fun e => hd (.inl e)
    have hd2 : f.bad = false := by cases hb : f.bad; rfl; exact absurd (.inr hb) hd
    obtain ⟨ch, hch⟩ : ∃ ch, decide (turned f.bytes n (pl at_ f.bytes.length) 4 ≠ f.bytes) = ch := ⟨_, rfl⟩
    obtain ⟨g, hg⟩ : ∃ g : Fr, (if turned f.bytes n (pl at_ f.bytes.length) 4 ≠ f.bytes then ⟨f.from_, f.to_, turned f.bytes n (pl at_ f.bytes.length) 4, true⟩ else f) = g := ⟨_, rfl⟩
    refine ⟨g, ch, ?_, fun w => turned_live f hd1 hd2 at_ n hn32 hbl g ch (hid hch) (hid hg) w, fun b v w h => spoil_live b v fs x at_ n hn32 f hlk hd1 hd2 hbl ch _ (hid hch) (hid ?_) w h h0 hsm⟩
    · rw [← hg]
      split
      · exact turned_length _ _ _ _
      · rfl
    · rw [← hg]
      split
      · rfl
      · exact hself.symm
/-- What a row of frames yields as the source of an append: a part of it. -/
theorem src_frames {w : World} {base : Nat} {ao : Option Addr} {c : Nat} {fs : List Fr} (h : w.ownsRow base 30 4 (.slice ao fs.length c) fs.length (framesV fs)) (i m : Nat) (hi : i + m ≤ fs.length) (c' : Nat) {g : Nat} (hg : ao = some ⟨g, 0, none⟩) :
    Src Try.prog 4 27 (.slice (some ⟨g, i * 4, none⟩) m c') m (framesV ((fs.drop i).take m)) w := by
  subst hg
  refine Src.ofSlice w Try.underlying27 ⟨g, i * 4, none⟩ m c' _ (by rw [framesV_length, List.length_take, List.length_drop]; congr 1; omega) (fun j u hj => ?_) (framesV_one _)
  have hjl : j < m * 4 := by
    rcases Nat.lt_or_ge j (framesV ((fs.drop i).take m)).length with h' | h'
    · rw [framesV_length, List.length_take, List.length_drop] at h'; omega
    · rw [List.getElem?_eq_none h'] at hj; cases hj
  rw [Addr.add_lit]
  have hc := h.cellAt (cap := c) (i * 4 + j) (by rw [show fs.length * 4 = fs.length * 4 from rfl]; omega)
  rw [hc, ← hj]
  rw [← framesV_take, ← framesV_drop, List.getElem?_take, if_pos hjl, List.getElem?_drop]
theorem src_rest (fs : List Fr) (g c i : Nat) (hi : i < fs.length) (hc : fs.length ≤ c) : ∃ A : Addr, (if c = i + 1 then some (⟨g, 0, none⟩ : Addr) else some ⟨g, (i + 1) * 4, none⟩) = some A ∧
    ∀ W base, W.ownsRow base 30 4 (.slice (some ⟨g, 0, none⟩) fs.length c) fs.length (framesV fs) → Src Try.prog 4 27 (.slice (some A) (fs.length - (i + 1)) (c - (i + 1))) (fs.length - (i + 1)) (framesV ((fs.drop (i + 1)).take (fs.length - (i + 1)))) W := by
  by_cases h : c = i + 1
  · refine ⟨_, by rw [if_pos h], fun W base hr => ?_⟩
    have h0 : fs.length - (i + 1) = 0 := by omega
    rw [h0, List.take_zero]
    exact Src.ofSlice W Try.underlying27 ⟨g, 0, none⟩ 0 _ [] rfl (fun j u hj => by simp at hj) (fun u hu => by cases hu)
  · exact ⟨_, by rw [if_neg h], fun W base hr => src_frames hr (i + 1) (fs.length - (i + 1)) (by omega) _ rfl⟩
theorem own_a' {w w4 : World} {T : TypeId} {n c : Nat} (hf : Frm (Own (.slice (some ⟨w.heap.size, 0, none⟩) n c)) (w.alloc (.cells #[] T)) w4) : Frm No w w4 :=
  ((Frm.refl No w).alloc _).trans hf (fun _ _ h => h) (fun i hi e => by
    simp only [Own, Value.ownBlock, Option.some.injEq] at e
    omega)
theorem own_aD {w w4 : World} {T : TypeId} {n c : Nat} (hf : Frm (Own (.slice (some ⟨w.heap.size, 0, none⟩) n c)) (w.alloc (.cells #[] T)).drew w4) : Frm No w w4 :=
  ((Frm.refl No w).alloc _).drew.trans hf (fun _ _ h => h) (fun i hi e => by
    simp only [Own, Value.ownBlock, Option.some.injEq] at e
    omega)
theorem put_frm {wr : World} {g i : Nat} (f : Fr) : Frm (One g) wr ((((wr.setCell ⟨g, i * 4, none⟩ (.int .i64 f.from_)).setCell ⟨g, i * 4 + 1, none⟩ (.int .i64 f.to_)).setCell ⟨g, i * 4 + 2, none⟩ (.string ⟨f.bytes.toArray⟩)).setCell ⟨g, i * 4 + 3, none⟩ (.bool f.bad)) :=
  ((((Frm.refl (One g) wr).setCell (p := ⟨g, i * 4, none⟩) (fun _ => rfl) _).setCell (p := ⟨g, i * 4 + 1, none⟩) (fun _ => rfl) _).setCell (p := ⟨g, i * 4 + 2, none⟩) (fun _ => rfl) _).setCell (p := ⟨g, i * 4 + 3, none⟩) (fun _ => rfl) _
/-- A store into the reference's row. -/
theorem Two.put {w wr : World} {B : Nat} {v : Value} {fs gs : List Fr} {g c : Nat} (h : Two w wr B v fs (.slice (some ⟨g, 0, none⟩) gs.length c) gs) (i : Nat) (hi : i < gs.length) (f : Fr) :
    Two w ((((wr.setCell ⟨g, i * 4, none⟩ (.int .i64 f.from_)).setCell ⟨g, i * 4 + 1, none⟩ (.int .i64 f.to_)).setCell ⟨g, i * 4 + 2, none⟩ (.string ⟨f.bytes.toArray⟩)).setCell ⟨g, i * 4 + 3, none⟩ (.bool f.bad)) B v fs (.slice (some ⟨g, 0, none⟩) gs.length c) (gs.set i f) := by
  have hfr : Frm (One g) wr ((((wr.setCell ⟨g, i * 4, none⟩ (.int .i64 f.from_)).setCell ⟨g, i * 4 + 1, none⟩ (.int .i64 f.to_)).setCell ⟨g, i * 4 + 2, none⟩ (.string ⟨f.bytes.toArray⟩)).setCell ⟨g, i * 4 + 3, none⟩ (.bool f.bad)) :=
    ((((Frm.refl (One g) wr).setCell (p := ⟨g, i * 4, none⟩) (fun _ => rfl) _).setCell (p := ⟨g, i * 4 + 1, none⟩) (fun _ => rfl) _).setCell (p := ⟨g, i * 4 + 2, none⟩) (fun _ => rfl) _).setCell (p := ⟨g, i * 4 + 3, none⟩) (fun _ => rfl) _
  exact h.grow (row_set h.row i hi f) (hfr.weak (fun k _ e => by rw [show k = g from e]; rfl)) (.inl rfl)
end Go.Proofs.Ythbacebkidggdaa
