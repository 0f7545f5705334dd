/- The parser of a grammar's tokens: its state, and its small methods. The parser's signs and names. -/
import Derived.Test.YtebocnpbiiejmaaDoorTwH
namespace Go.Proofs.YtebocnpbiiejmaaDoor
open Go.RowKit
/-- tokens that lie in a row, and the end among them alone at the end -/
structure Tks (w : World) (g cap : Nat) (tl : List Tp) : Prop where
  cells : ∀ i (hi : i < tl.length) j, j < 4 → w.cell? ⟨g, i * 4 + j, none⟩ = (tokV tl[i])[j]?
  en : ∀ i (hi : i < tl.length), tl[i].1.k = 4 ↔ i + 1 = tl.length
  len : tl.length ≤ 65537
  nz : ∀ i (hi : i < tl.length), tl[i].1.k ≠ 0
  ks : ∀ i (hi : i < tl.length), tl[i].1.k ≤ 4
theorem Tks.frm {w w1 : World} {g cap : Nat} {tl : List Tp} {S : Nat → Prop} (h : Tks w g cap tl) (hf : Frm S w w1) (hS : ¬ S g) : Tks w1 g cap tl := by
  refine ⟨fun i hi j hj => ?_, h.en, h.len, h.nz, h.ks⟩
  have h1 := h.cells i hi j hj
  have hl : j < (tokV tl[i]).length := hj
  rw [List.getElem?_eq_getElem hl] at h1
  have hb : g < w.heap.size := World.block_lt_of_cell? w _ h1
  rw [← h.cells i hi j hj]
  exact hf.cell (p := ⟨g, i * 4 + j, none⟩) hb hS
/-- A parser lies at block p: at token i, so many brackets are open. -/
structure Par (w : World) (p g cap : Nat) (tl : List Tp) (i o : Nat) : Prop where
  c0 : w.cell? ⟨p, 0, none⟩ = some (.slice (some ⟨g, 0, none⟩) tl.length cap)
  c1 : w.cell? ⟨p, 1, none⟩ = some (.int .i64 (i : Int))
  c2 : w.cell? ⟨p, 2, none⟩ = some (.int .i64 (o : Int))
  f : ∀ j, w.frozen? ⟨p, j, none⟩ = false
  tk : Tks w g cap tl
  lt : i < tl.length
  gp : g < p
  o16 : o ≤ 16
namespace Par
variable {w w1 : World} {p g cap : Nat} {tl : List Tp} {i o : Nat}
theorem size (h : Par w p g cap tl i o) : p < w.heap.size := World.block_lt_of_cell? w _ h.c0
theorem frm (h : Par w p g cap tl i o) (hf : Frm No w w1) : Par w1 p g cap tl i o :=
  ⟨(hf.cell (p := ⟨p, 0, none⟩) h.size (fun h => h)).trans h.c0, (hf.cell (p := ⟨p, 1, none⟩) h.size (fun h => h)).trans h.c1, (hf.cell (p := ⟨p, 2, none⟩) h.size (fun h => h)).trans h.c2,
    fun j => (hf.frozen (p := ⟨p, j, none⟩) h.size (fun h => h)).trans (h.f j), h.tk.frm hf (fun h => h), h.lt, h.gp, h.o16⟩
theorem set1 (h : Par w p g cap tl i o) {m : Nat} (hm : m < tl.length) : Par (w.setCell ⟨p, 1, none⟩ (.int .i64 (m : Int))) p g cap tl m o :=
  ⟨(World.cell?_setCell_other _ _ _ _ (by simp)).trans h.c0, World.cell?_setCell_same _ _ _ h.c1, (World.cell?_setCell_other _ _ _ _ (by simp)).trans h.c2, fun j => (World.frozen?_setCell _ _ _ _).trans (h.f j),
    h.tk.frm (S := One p) frmOne (fun e => by have e : g = p := e; have := h.gp; omega), hm, h.gp, h.o16⟩
theorem set2 (h : Par w p g cap tl i o) {m : Nat} (hm : m ≤ 16) : Par (w.setCell ⟨p, 2, none⟩ (.int .i64 (m : Int))) p g cap tl i m :=
  ⟨(World.cell?_setCell_other _ _ _ _ (by simp)).trans h.c0, (World.cell?_setCell_other _ _ _ _ (by simp)).trans h.c1, World.cell?_setCell_same _ _ _ h.c2, fun j => (World.frozen?_setCell _ _ _ _).trans (h.f j),
    h.tk.frm (S := One p) frmOne (fun e => by have e : g = p := e; have := h.gp; omega), h.lt, h.gp, hm⟩
theorem drew (h : Par w p g cap tl i o) : Par w.drew p g cap tl i o := ⟨h.c0, h.c1, h.c2, h.f, ⟨h.tk.cells, h.tk.en, h.tk.len, h.tk.nz, h.tk.ks⟩, h.lt, h.gp, h.o16⟩
end Par
/-- the next token -/
structure TokAt (w : World) (g i : Nat) (t : Tp) : Prop where
  k0 : w.cell? ⟨g, i * 4, none⟩ = some (.int .i64 (t.1.k : Int))
  k1 : w.cell? ⟨g, i * 4 + 1, none⟩ = some (.string ⟨t.1.s.toArray⟩)
  k2 : w.cell? ⟨g, i * 4 + 2, none⟩ = some (.int .i64 t.2.1)
  k3 : w.cell? ⟨g, i * 4 + 3, none⟩ = some (.int .i64 t.2.2)
theorem Par.tok {w : World} {p g cap : Nat} {tl : List Tp} {i o : Nat} (h : Par w p g cap tl i o) : TokAt w g i (tl[i]'h.lt) :=
  ⟨h.tk.cells i h.lt 0 (by decide), h.tk.cells i h.lt 1 (by decide), h.tk.cells i h.lt 2 (by decide), h.tk.cells i h.lt 3 (by decide)⟩
/-- what is thrown where a text is none -/
def Wrong (e : Ending) : Prop := ∃ x y z : Int, z ≠ 0 ∧ e = .panicked [{ v := .iface 46 (.agg #[.int .i64 x, .int .i64 y, .int .i64 z]), recovered := false }]
theorem pfail_any (p g cap : Nat) (tl : List Tp) (i o : Nat) (z : Int) (w : World) (h : Par w p g cap tl i o) (hz : z ≠ 0) :
    Calls Tryd.prog 33 #[.pointer (some ⟨p, 0, none⟩), .int .i64 z] w fun e w' => Wrong e ∧ Frm (One p) w w' := by
  have h0 := h.c0
  have h1 := h.c1
  have hlt := h.lt
  have HA : ∀ o', Par (w.alloc o') p g cap tl i o := fun o' => h.frm ((Frm.refl No w).alloc o')
  have a0 := fun o' => (HA o').c0
  have a1 := fun o' => (HA o').c1
  obtain ⟨t, ht⟩ : ∃ t, tl[i] = t := ⟨_, rfl⟩
  have hT : TokAt w g i t := ht ▸ h.tok
  have hTA : ∀ o', TokAt (w.alloc o') g i t := fun o' => ht ▸ (HA o').tok
  obtain ⟨⟨tk, ts⟩, tx, ty⟩ := t
  have k0 := hT.k0
  have k1 := hT.k1
  have k2 := hT.k2
  have k3 := hT.k3
  have b0 := fun o' => (hTA o').k0
  have b1 := fun o' => (hTA o').k1
  have b2 := fun o' => (hTA o').k2
  have b3 := fun o' => (hTA o').k3
  have HZ := hid hz
  clear h hz hT hTA HA ht
  go_enter Tryd.func33, Tryd.ntmps33
  go_wp2_with fail
  go_region
  all_goals go_wp2_with fail
  exact ⟨rfl, ⟨tx, ty, z, HZ.out, rfl⟩, (by repeat (first | exact Frm.refl _ _ | refine Frm.drew ?_ | refine Frm.alloc ?_ _))⟩
def tokA (t : Tp) : Value := .agg #[.int .i64 (t.1.k : Int), .string ⟨t.1.s.toArray⟩, .int .i64 t.2.1, .int .i64 t.2.2]
set_option maxRecDepth 100000 in
set_option maxHeartbeats 1000000 in
theorem peek_near (p g cap : Nat) (tl : List Tp) (i o : Nat) (t : Tp) (w : World) (h : Par w p g cap tl i o) (ht : tl[i]'h.lt = t) (hi : i < 4096) :
    Calls Tryd.prog 32 #[.pointer (some ⟨p, 0, none⟩)] w fun e w' => e = .returned (tokA t) ∧ Frm No w w' := by
  have hz : ¬ (4096 : Int) ≤ (i : Int) := by omega
  have h0 := h.c0
  have h1 := h.c1
  have hlt := h.lt
  have HA : ∀ o', Par (w.alloc o') p g cap tl i o := fun o' => h.frm ((Frm.refl No w).alloc o')
  have HB : ∀ o1 o2, Par ((w.alloc o1).alloc o2) p g cap tl i o := fun o1 o2 => h.frm (((Frm.refl No w).alloc o1).alloc o2)
  have a0 := fun o' => (HA o').c0
  have aa0 := fun o1 o2 => (HB o1 o2).c0
  have aa1 := fun o1 o2 => (HB o1 o2).c1
  have a1 := fun o' => (HA o').c1
  have hT : TokAt w g i t := ht ▸ h.tok
  have hTA : ∀ o', TokAt (w.alloc o') g i t := fun o' => ht ▸ (HA o').tok
  have hTB : ∀ o1 o2, TokAt ((w.alloc o1).alloc o2) g i t := fun o1 o2 => ht ▸ (HB o1 o2).tok
  obtain ⟨⟨tk, ts⟩, tx, ty⟩ := t
  have k0 := hT.k0
  have k1 := hT.k1
  have k2 := hT.k2
  have k3 := hT.k3
  have b0 := fun o' => (hTA o').k0
  have b1 := fun o' => (hTA o').k1
  have b2 := fun o' => (hTA o').k2
  have b3 := fun o' => (hTA o').k3
  have bb0 := fun o1 o2 => (hTB o1 o2).k0
  have bb1 := fun o1 o2 => (hTB o1 o2).k1
  have bb2 := fun o1 o2 => (hTB o1 o2).k2
  have bb3 := fun o1 o2 => (hTB o1 o2).k3
  clear h hT hTA hTB HA HB ht hi
  go_enter Tryd.func32, Tryd.ntmps32
  go_wp2_with fail
  go_region
  all_goals go_wp2_with fail
  refine bodyPost_ret (v := .agg #[.int .i64 (tk : Int), .string ⟨ts.toArray⟩, .int .i64 tx, .int .i64 ty]) (by simp [results, Tryd.results32, go_sem]) rfl ⟨rfl, (by repeat (first | exact Frm.refl _ _ | refine Frm.drew ?_ | refine Frm.alloc ?_ _))⟩
theorem peek_end (p g cap : Nat) (tl : List Tp) (i o : Nat) (t : Tp) (w : World) (h : Par w p g cap tl i o) (ht : tl[i]'h.lt = t) (hi : 4096 ≤ i) (hk : t.1.k = 4) :
    Calls Tryd.prog 32 #[.pointer (some ⟨p, 0, none⟩)] w fun e w' => e = .returned (tokA t) ∧ Frm No w w' := by
  have hz : (4096 : Int) ≤ (i : Int) := by omega
  have h0 := h.c0
  have h1 := h.c1
  have hlt := h.lt
  have HA : ∀ o', Par (w.alloc o') p g cap tl i o := fun o' => h.frm ((Frm.refl No w).alloc o')
  have HB : ∀ o1 o2, Par ((w.alloc o1).alloc o2) p g cap tl i o := fun o1 o2 => h.frm (((Frm.refl No w).alloc o1).alloc o2)
  have a0 := fun o' => (HA o').c0
  have aa0 := fun o1 o2 => (HB o1 o2).c0
  have aa1 := fun o1 o2 => (HB o1 o2).c1
  have a1 := fun o' => (HA o').c1
  have hT : TokAt w g i t := ht ▸ h.tok
  have hTA : ∀ o', TokAt (w.alloc o') g i t := fun o' => ht ▸ (HA o').tok
  have hTB : ∀ o1 o2, TokAt ((w.alloc o1).alloc o2) g i t := fun o1 o2 => ht ▸ (HB o1 o2).tok
  obtain ⟨⟨tk, ts⟩, tx, ty⟩ := t
  have k0 := hT.k0
  have k1 := hT.k1
  have k2 := hT.k2
  have k3 := hT.k3
  have b0 := fun o' => (hTA o').k0
  have b1 := fun o' => (hTA o').k1
  have b2 := fun o' => (hTA o').k2
  have b3 := fun o' => (hTA o').k3
  have bb0 := fun o1 o2 => (hTB o1 o2).k0
  have bb1 := fun o1 o2 => (hTB o1 o2).k1
  have bb2 := fun o1 o2 => (hTB o1 o2).k2
  have bb3 := fun o1 o2 => (hTB o1 o2).k3
  obtain rfl : tk = 4 := hk
  clear h hT hTA hTB HA HB ht hi
  go_enter Tryd.func32, Tryd.ntmps32
  go_wp2_with fail
  go_region
  all_goals go_wp2_with fail
  refine bodyPost_ret (v := .agg #[.int .i64 4, .string ⟨ts.toArray⟩, .int .i64 tx, .int .i64 ty]) (by simp [results, Tryd.results32, go_sem]) rfl ⟨rfl, (by repeat (first | exact Frm.refl _ _ | refine Frm.drew ?_ | refine Frm.alloc ?_ _))⟩
theorem peek_far (p g cap : Nat) (tl : List Tp) (i o : Nat) (t : Tp) (w : World) (h : Par w p g cap tl i o) (ht : tl[i]'h.lt = t) (hi : 4096 ≤ i) (hk : t.1.k ≠ 4) :
    Calls Tryd.prog 32 #[.pointer (some ⟨p, 0, none⟩)] w fun e w' => Wrong e ∧ Frm (One p) w w' := by
  have hz : (4096 : Int) ≤ (i : Int) := by omega
  have HF : Hid (∀ W, Frm No w W → Calls Tryd.prog 33 #[.pointer (some ⟨p, 0, none⟩), .int .i64 6] W fun e w' => Wrong e ∧ Frm (One p) w w') := hid fun W hW =>
    (pfail_any p g cap tl i o 6 W (h.frm hW) (by decide)).mono fun e w' ⟨h1, h2⟩ => ⟨h1, hW.trans h2 (fun _ _ h => h.elim) (fun _ _ h => h)⟩
  have h0 := h.c0
  have h1 := h.c1
  have hlt := h.lt
  have HA : ∀ o', Par (w.alloc o') p g cap tl i o := fun o' => h.frm ((Frm.refl No w).alloc o')
  have HB : ∀ o1 o2, Par ((w.alloc o1).alloc o2) p g cap tl i o := fun o1 o2 => h.frm (((Frm.refl No w).alloc o1).alloc o2)
  have a0 := fun o' => (HA o').c0
  have aa0 := fun o1 o2 => (HB o1 o2).c0
  have aa1 := fun o1 o2 => (HB o1 o2).c1
  have a1 := fun o' => (HA o').c1
  have hT : TokAt w g i t := ht ▸ h.tok
  have hTA : ∀ o', TokAt (w.alloc o') g i t := fun o' => ht ▸ (HA o').tok
  have hTB : ∀ o1 o2, TokAt ((w.alloc o1).alloc o2) g i t := fun o1 o2 => ht ▸ (HB o1 o2).tok
  obtain ⟨⟨tk, ts⟩, tx, ty⟩ := t
  have k0 := hT.k0
  have k1 := hT.k1
  have k2 := hT.k2
  have k3 := hT.k3
  have b0 := fun o' => (hTA o').k0
  have b1 := fun o' => (hTA o').k1
  have b2 := fun o' => (hTA o').k2
  have b3 := fun o' => (hTA o').k3
  have bb0 := fun o1 o2 => (hTB o1 o2).k0
  have bb1 := fun o1 o2 => (hTB o1 o2).k1
  have bb2 := fun o1 o2 => (hTB o1 o2).k2
  have bb3 := fun o1 o2 => (hTB o1 o2).k3
  have hk4 : (((tk : Nat) : Int) == 4) = false := by
    rw [beq_eq_false_iff_ne]
    intro e
    exact hk (by show tk = 4; omega)
  clear h hT hTA hTB HA HB ht hi hk
  go_enter Tryd.func32, Tryd.ntmps32
  go_wp2_with fail
  go_region
  all_goals go_wp2_with fail
  refine (HF.out _ (by repeat (first | exact Frm.refl _ _ | refine Frm.drew ?_ | refine Frm.alloc ?_ _))).mono ?_
  rintro e w2 ⟨⟨x, y, z, hz2, rfl⟩, hF2⟩
  go_wp2_with fail
  exact ⟨rfl, ⟨x, y, z, hz2, rfl⟩, hF2⟩
/-- what is left, as the parser sees it -/
def rest (tl : List Tp) (i : Nat) : List Gr.Tk := (Gr.seen 4096 (tl.map (·.1))).drop i
def seenAt (n i : Nat) (t : Gr.Tk) : Gr.Tk := if n ≤ i ∧ t.k ≠ 4 then ⟨0, t.s⟩ else t
theorem seen_drop : ∀ (l : List Gr.Tk) (n i : Nat) (h : i < l.length), (Gr.seen n l).drop i = seenAt n i l[i] :: (Gr.seen n l).drop (i + 1) := by
  intro l
  induction l with
  | nil => intro n i h; cases h
  | cons a l ih =>
    intro n i h
    cases i with
    | zero =>
      cases n with
      | zero =>
        show (if a.k = 4 then a else ⟨0, a.s⟩) :: _ = (if 0 ≤ 0 ∧ a.k ≠ 4 then _ else _) :: _
        by_cases h4 : a.k = 4
        · rw [if_pos h4, if_neg (fun e => e.2 h4)]
          rfl
        · rw [if_neg h4, if_pos ⟨Nat.le_refl _, h4⟩]
          rfl
      | succ n =>
        show a :: _ = (if n + 1 ≤ 0 ∧ a.k ≠ 4 then _ else a) :: _
        rw [if_neg (by omega)]
        rfl
    | succ i =>
      have h' : i < l.length := by simpa using h
      cases n with
      | zero =>
        have := ih 0 i h'
        show (Gr.seen 0 l).drop i = _ :: (Gr.seen 0 l).drop (i + 1)
        rw [this]
        unfold seenAt
        simp
      | succ n =>
        have := ih n i h'
        show (Gr.seen n l).drop i = _ :: (Gr.seen n l).drop (i + 1)
        rw [this]
        unfold seenAt
        simp
theorem rest_cons {tl : List Tp} {i : Nat} (h : i < tl.length) : rest tl i = seenAt 4096 i tl[i].1 :: rest tl (i + 1) := by
  unfold rest
  rw [seen_drop _ _ _ (by rw [List.length_map]; exact h), List.getElem_map]
/-- what a method of the parser does: it hands something back, or throws -/
def Peeked (w : World) (p : Nat) (t : Tp) (s : Gr.Tk) (e : Ending) (w' : World) : Prop :=
  if s.k = 0 then Wrong e ∧ Frm (One p) w w' else e = .returned (tokA t) ∧ s = t.1 ∧ Frm No w w'
theorem peek_any (p g cap : Nat) (tl : List Tp) (i o : Nat) (w : World) (h : Par w p g cap tl i o) :
    Calls Tryd.prog 32 #[.pointer (some ⟨p, 0, none⟩)] w (Peeked w p (tl[i]'h.lt) (seenAt 4096 i (tl[i]'h.lt).1)) := by
  have hnz := h.tk.nz i h.lt
  by_cases hi : 4096 ≤ i
  · by_cases hk : (tl[i]'h.lt).1.k = 4
    · have es : seenAt 4096 i (tl[i]'h.lt).1 = (tl[i]'h.lt).1 := if_neg (fun e => e.2 hk)
      refine (peek_end p g cap tl i o _ w h rfl hi hk).mono fun e w' ⟨h1, h2⟩ => ?_
      rw [es]
      unfold Peeked
      rw [if_neg hnz]
      exact ⟨h1, rfl, h2⟩
    · have es : seenAt 4096 i (tl[i]'h.lt).1 = ⟨0, (tl[i]'h.lt).1.s⟩ := if_pos ⟨hi, hk⟩
      refine (peek_far p g cap tl i o _ w h rfl hi hk).mono fun e w' h1 => ?_
      rw [es]
      exact h1
  · have es : seenAt 4096 i (tl[i]'h.lt).1 = (tl[i]'h.lt).1 := if_neg (fun e => hi e.1)
    refine (peek_near p g cap tl i o _ w h rfl (by omega)).mono fun e w' ⟨h1, h2⟩ => ?_
    rw [es]
    unfold Peeked
    rw [if_neg hnz]
    exact ⟨h1, rfl, h2⟩
/-- the token that is seen: one too many, or itself -/
theorem peeked_or {w : World} {p : Nat} {t : Tp} {s : Gr.Tk} {e : Ending} {w' : World} (h : Peeked w p t s e w') : (s.k = 0 ∧ Wrong e ∧ Frm (One p) w w') ∨ (s.k ≠ 0 ∧ e = .returned (tokA t) ∧ s = t.1 ∧ Frm No w w') := by
  unfold Peeked at h
  by_cases h0 : s.k = 0
  · rw [if_pos h0] at h; exact Or.inl ⟨h0, h⟩
  · rw [if_neg h0] at h; exact Or.inr ⟨h0, h⟩
end Go.Proofs.YtebocnpbiiejmaaDoor

namespace Go.Proofs.YtebocnpbiiejmaaDoor
open Go.RowKit
/-- a sign was looked for -/
def Signed (w : World) (p : Nat) (r : Option Bool) (e : Ending) (w' : World) : Prop :=
  match r with
  | none => Wrong e ∧ Frm (One p) w w'
  | some b => e = .returned (.bool b) ∧ Frm No w w'
theorem psign_any (p g cap : Nat) (tl : List Tp) (i o : Nat) (c : UInt8) (w : World) (h : Par w p g cap tl i o) :
    Calls Tryd.prog 29 #[.pointer (some ⟨p, 0, none⟩), .string ⟨#[c]⟩] w (Signed w p (Gr.sign c (rest tl i))) := by
  have HP := hid (peek_any p g cap tl i o w h)
  have hlt := h.lt
  have hs : Gr.sign c (rest tl i) = (if (seenAt 4096 i tl[i].1).k = 0 then none else some (decide (seenAt 4096 i tl[i].1 = Gr.sg c))) := by rw [rest_cons hlt]; rfl
  rw [hs]
  obtain ⟨t, ht⟩ : ∃ t, tl[i] = t := ⟨_, rfl⟩
  rw [ht] at HP ⊢
  obtain ⟨s, hse⟩ : ∃ s, seenAt 4096 i t.1 = s := ⟨_, rfl⟩
  rw [hse] at HP ⊢
  obtain ⟨R, hR⟩ : ∃ R, (if s.k = 0 then none else some (decide (s = Gr.sg c))) = R := ⟨_, rfl⟩
  rw [hR]
  have HR := hid hR
  clear hs hse ht h hlt hR
  go_enter Tryd.func29, Tryd.ntmps29
  go_wp2_with fail
  refine HP.out.mono ?_
  intro e w1 hp
  rcases peeked_or hp with ⟨h0, ⟨x, y, z, hz, rfl⟩, hF⟩ | ⟨h0, rfl, rfl, hF⟩
  · have HRN : Hid (R = none) := hid (by rw [← HR.out, if_pos h0])
    clear hp h0
    go_wp2_with fail
    refine ⟨rfl, ?_⟩
    rw [HRN.out]
    exact ⟨⟨x, y, z, hz, rfl⟩, hF⟩
  · have HRN : Hid (R = some (decide (t.1 = Gr.sg c))) := hid (by rw [← HR.out, if_neg h0])
    obtain ⟨⟨tk, ts⟩, tx, ty⟩ := t
    unfold tokA
    have hFb := hF.alloc (.cells #[.int .i64 (tk : Int), .string ⟨ts.toArray⟩, .int .i64 tx, .int .i64 ty] 38)
    by_cases h3 : tk = 3
    · have z3 : (((tk : Nat) : Int) == 3) = true := by rw [h3]; rfl
      have HC : Hid (R = some (ts == [c])) := hid (by
        rw [HRN.out, h3]
        congr 1
        rw [Bool.eq_iff_iff, decide_eq_true_iff, beq_iff_eq]
        exact ⟨fun e => congrArg Gr.Tk.s e, fun e => by rw [e]; rfl⟩)
      clear hp h0 h3
      go_wp2_with fail
      refine bodyPost_ret (results_tmp rfl _ _ _) rfl ?_
      rw [HC.out]
      exact ⟨rfl, hFb⟩
    · have z3 : (((tk : Nat) : Int) == 3) = false := by rw [beq_eq_false_iff_ne]; omega
      have HC : Hid (R = some false) := hid (by rw [HRN.out, _root_.decide_eq_false (fun e => h3 (congrArg Gr.Tk.k e))])
      clear hp h0 h3
      go_wp2_with fail
      refine bodyPost_ret (results_tmp rfl _ _ _) rfl ?_
      rw [HC.out]
      exact ⟨rfl, hFb⟩
theorem wrap_succ2 {n : Nat} (h : n < 65537) : IntKind.wrap .i64 ((n : Int) + 1) = ((n + 1 : Nat) : Int) := by
  rw [IntWalk.i64_in _ ⟨by omega, by omega⟩]
  omega
/-- one token on -/
theorem Par.step {w : World} {p g cap : Nat} {tl : List Tp} {i o : Nat} (h : Par w p g cap tl i o) (hk : (tl[i]'h.lt).1.k ≠ 4) : Par (w.setCell ⟨p, 1, none⟩ (.int .i64 ((i + 1 : Nat) : Int))) p g cap tl (i + 1) o :=
  h.set1 (by have h1 := h.lt; have h2 := h.tk.en i h.lt; omega)
/-- a sign was taken -/
def Taken (w : World) (p g cap : Nat) (tl : List Tp) (i o : Nat) (r : Option (List Gr.Tk)) (e : Ending) (w' : World) : Prop :=
  Frm (One p) w w' ∧ match r with
  | none => Wrong e
  | some ts => e = .returned (.tuple #[]) ∧ ts = rest tl (i + 1) ∧ Par w' p g cap tl (i + 1) o
theorem seen_k {n i : Nat} {t : Gr.Tk} (h : (seenAt n i t).k ≠ 0) : seenAt n i t = t := by
  unfold seenAt at h ⊢
  split
  · rename_i hc; rw [if_pos hc] at h; exact absurd rfl h
  · rfl
def takeOf (S : Option Bool) (l : List Gr.Tk) : Option (List Gr.Tk) :=
  match S with
  | some true => some l.tail
  | _ => none
theorem take_of (c : UInt8) (l : List Gr.Tk) : Gr.take c l = takeOf (Gr.sign c l) l := by
  unfold Gr.take takeOf
  cases Gr.sign c l with
  | none => rfl
  | some b => cases b <;> rfl
theorem ptake_any (p g cap : Nat) (tl : List Tp) (i o : Nat) (c : UInt8) (w : World) (h : Par w p g cap tl i o) :
    Calls Tryd.prog 31 #[.pointer (some ⟨p, 0, none⟩), .string ⟨#[c]⟩] w (Taken w p g cap tl i o (Gr.take c (rest tl i))) := by
  have HP := hid (psign_any p g cap tl i o c w h)
  have HH := hid h
  obtain ⟨S, hS⟩ : ∃ S, Gr.sign c (rest tl i) = S := ⟨_, rfl⟩
  rw [hS] at HP
  have HS := hid hS
  obtain ⟨R, hR⟩ : ∃ R, Gr.take c (rest tl i) = R := ⟨_, rfl⟩
  rw [hR]
  have HR := hid hR
  have hl := h.tk.len
  have hlt := h.lt
  have hw := wrap_succ2 (n := i) (by omega)
  have HL := hid hl
  clear hS hR h hl
  have tk : Hid (R = takeOf S (rest tl i)) := hid (by rw [← HR.out, ← HS.out]; exact take_of _ _)
  go_enter Tryd.func31, Tryd.ntmps31
  go_wp2_with fail
  refine HP.out.mono ?_
  intro e w1 hp
  rcases S with _ | _ | _
  · obtain ⟨⟨x, y, z, hz, rfl⟩, hF⟩ := hp
    have HRN : Hid (R = none) := tk
    clear tk HS
    go_wp2_with fail
    refine ⟨rfl, hF, ?_⟩
    rw [HRN.out]
    exact ⟨x, y, z, hz, rfl⟩
  · obtain ⟨rfl, hF⟩ := hp
    have HRN : Hid (R = none) := tk
    have HF2 := hid (pfail_any p g cap tl i o 2 w1 (HH.out.frm hF) (by decide))
    clear tk HS
    go_wp2_with fail
    refine HF2.out.mono ?_
    rintro e w2 ⟨⟨x, y, z, hz, rfl⟩, hF2⟩
    go_wp2_with fail
    refine ⟨rfl, hF.trans hF2 (fun _ _ h => h.elim) (fun _ _ h => h), ?_⟩
    rw [HRN.out]
    exact ⟨x, y, z, hz, rfl⟩
  · obtain ⟨rfl, hF⟩ := hp
    have HRN : Hid (R = some (rest tl (i + 1))) := hid (by
      rw [tk.out, rest_cons hlt]
      rfl)
    have hk4 : Hid (tl[i].1.k ≠ 4) := hid (by
      have h1 := HS.out
      rw [rest_cons hlt] at h1
      obtain ⟨r, hr⟩ := Gr.sign_true h1
      injection hr with e1 e2
      have h2 : (seenAt 4096 i tl[i].1).k = 3 := by rw [e1]; rfl
      have h3 := seen_k (n := 4096) (i := i) (t := tl[i].1) (by omega)
      rw [h3] at h2
      omega)
    have hP1 := HH.out.frm hF
    have h1 := hP1.c1
    have hf := hP1.f 1
    clear tk HS hP1
    go_wp2_with fail
    refine bodyPost_end (results_none rfl _ _ _) rfl ?_
    refine ⟨?_, ?_⟩
    · exact hF.trans (frmOne (b := p)) (fun _ _ h => h.elim) (fun _ _ h => h)
    · rw [HRN.out]
      exact ⟨rfl, rfl, (HH.out.frm hF).step hk4.out⟩
/-- a name was taken -/
def Named (w : World) (p g cap : Nat) (tl : List Tp) (i o : Nat) (r : Option (List UInt8 × List Gr.Tk)) (e : Ending) (w' : World) : Prop :=
  Frm (One p) w w' ∧ match r with
  | none => Wrong e
  | some (s, ts) => e = .returned (.string ⟨s.toArray⟩) ∧ ts = rest tl (i + 1) ∧ Par w' p g cap tl (i + 1) o
theorem pname_any (p g cap : Nat) (tl : List Tp) (i o : Nat) (w : World) (h : Par w p g cap tl i o) :
    Calls Tryd.prog 30 #[.pointer (some ⟨p, 0, none⟩)] w (Named w p g cap tl i o (Gr.name (rest tl i))) := by
  have HP := hid (peek_any p g cap tl i o w h)
  have HH := hid h
  have hlt := h.lt
  have hl := h.tk.len
  have hw := wrap_succ2 (n := i) (by omega)
  have hs : Gr.name (rest tl i) = (if (seenAt 4096 i tl[i].1).k = 1 then some ((seenAt 4096 i tl[i].1).s, rest tl (i + 1)) else none) := by rw [rest_cons hlt]; rfl
  rw [hs]
  have HK : Hid (tl[i].1.k ≠ 4 → Par (w.setCell ⟨p, 1, none⟩ (.int .i64 ((i + 1 : Nat) : Int))) p g cap tl (i + 1) o) := hid fun hk => h.step hk
  obtain ⟨t, ht⟩ : ∃ t, tl[i] = t := ⟨_, rfl⟩
  rw [ht] at HP ⊢
  have HT := hid ht
  obtain ⟨s, hse⟩ : ∃ s, seenAt 4096 i t.1 = s := ⟨_, rfl⟩
  rw [hse] at HP ⊢
  obtain ⟨R, hR⟩ : ∃ R, (if s.k = 1 then some (s.s, rest tl (i + 1)) else none) = R := ⟨_, rfl⟩
  rw [hR]
  have HR := hid hR
  clear hs hse ht h hl hR
  go_enter Tryd.func30, Tryd.ntmps30
  go_wp2_with fail
  refine HP.out.mono ?_
  intro e w1 hp
  rcases peeked_or hp with ⟨h0, ⟨x, y, z, hz, rfl⟩, hF⟩ | ⟨h0, rfl, rfl, hF⟩
  · have HRN : Hid (R = none) := hid (by rw [← HR.out, if_neg (by omega)])
    clear hp h0
    go_wp2_with fail
    refine ⟨rfl, hF, ?_⟩
    rw [HRN.out]
    exact ⟨x, y, z, hz, rfl⟩
  · obtain ⟨⟨tk, ts⟩, tx, ty⟩ := t
    unfold tokA
    have hFb := hF.alloc (.cells #[.int .i64 (tk : Int), .string ⟨ts.toArray⟩, .int .i64 tx, .int .i64 ty] 38)
    by_cases h1 : tk = 1
    · have z1 : (((tk : Nat) : Int) == 1) = true := by rw [h1]; rfl
      have HRN : Hid (R = some (ts, rest tl (i + 1))) := hid (by rw [← HR.out, if_pos h1])
      have hP1 := HH.out.frm hFb
      have g1 := hP1.c1
      have hf := hP1.f 1
      have HP1 := hid hP1
      have HK4 : Hid (tl[i].1.k ≠ 4) := hid (by rw [HT.out]; show tk ≠ 4; omega)
      have hne : ¬ p = w1.heap.size := by have := (HH.out.frm hF).size; omega
      have hx : ∀ j, (w1.alloc (.cells #[.int .i64 (tk : Int), .string ⟨ts.toArray⟩, .int .i64 tx, .int .i64 ty] 38)).cell? ⟨w1.heap.size, j, none⟩ = (#[.int .i64 (tk : Int), .string ⟨ts.toArray⟩, .int .i64 tx, .int .i64 ty] : Array Value)[j]? := fun j => World.cell?_alloc_at _ _ _ _ rfl
      obtain ⟨B, hB⟩ : ∃ B, w1.heap.size = B := ⟨_, rfl⟩
      obtain ⟨W, hW⟩ : ∃ W, w1.alloc (.cells #[.int .i64 (tk : Int), .string ⟨ts.toArray⟩, .int .i64 tx, .int .i64 ty] 38) = W := ⟨_, rfl⟩
      rw [hW] at hFb g1 hf HP1 hx
      rw [hB] at hx hne
      have k0 := hx 0
      have k1 := hx 1
      have hne' : ¬ B = p := fun e => hne e.symm
      have k1' : ∀ u : Value, (W.setCell ⟨p, 1, none⟩ u).cell? ⟨B, 1, none⟩ = some (.string ⟨ts.toArray⟩) := fun u => (World.cell?_setCell_other _ _ _ _ (by simp)).trans k1
      clear hp h0 h1 hP1
      go_wp2_with fail
      try simp only [hW, hB]
      refine bodyPost_ret (results_tmp rfl _ _ _) rfl ⟨?_, ?_⟩
      · exact hFb.trans (frmOne (b := p)) (fun _ _ h => h.elim) (fun _ _ h => h)
      · rw [HRN.out]
        exact ⟨rfl, rfl, HP1.out.step HK4.out⟩
    · have z1 : (((tk : Nat) : Int) == 1) = false := by rw [beq_eq_false_iff_ne]; omega
      have HRN : Hid (R = none) := hid (by rw [← HR.out, if_neg h1])
      have HF2 := hid (pfail_any p g cap tl i o 2 _ (HH.out.frm hFb) (by decide))
      clear hp h0 h1
      go_wp2_with fail
      refine HF2.out.mono ?_
      rintro e w2 ⟨⟨x, y, z, hz, rfl⟩, hF2⟩
      go_wp2_with fail
      refine ⟨rfl, hFb.trans hF2 (fun _ _ h => h.elim) (fun _ _ h => h), ?_⟩
      rw [HRN.out]
      exact ⟨x, y, z, hz, rfl⟩
end Go.Proofs.YtebocnpbiiejmaaDoor
