/- The fields of a message, read one by one: num, text, flag, one. -/
import Derived.Test.YtaejcejfpcjifaaDoorMsgW2
import Derived.Test.YtaejcejfpcjifaaDoorInBo
namespace Go.Proofs.YtaejcejfpcjifaaDoor
open Go.RowKit
open Msg

section
variable {w : World} {rb ib B j : Nat} {r : List UInt8}
/-- What a field that is read leaves. -/
def RP (ib B j : Nat) (r : List UInt8) (w : World) (v : Value) (e : Ending) (w' : World) : Prop := e = .returned (.tuple #[]) ∧ ∃ w1, w' = w1.setCell ⟨B, j, none⟩ v ∧ InAt w1 ib r 0 ∧ Frm (One ib) w w1
set_option maxRecDepth 100000 in
theorem rnum (n : Int) (u : Value) (hin : InAt w ib (Oct.enc n ++ r) 0) (hl : (Oct.enc n ++ r).length ≤ 281474976710656) (hc2 : w.cell? ⟨rb, 2, none⟩ = some (.pointer (some ⟨ib, 0, none⟩))) (hn : num n = true)
    (hc : w.cell? ⟨B, j, none⟩ = some u) (hfz : w.frozen? ⟨B, j, none⟩ = false) (hBi : B ≠ ib) :
    Calls Tryd.prog 19 #[.pointer (some ⟨rb, 0, none⟩), .pointer (some ⟨B, j, none⟩)] w (RP ib B j r w (.int .i64 n)) := by
  have HI := hid (in_int ib (Oct.enc n ++ r) 0 w hin hl)
  rw [rInt_enc (enc_num hn)] at HI
  have hbl : B < w.heap.size := World.block_lt_of_cell? w _ hc
  clear hin hl hn
  go_enter Tryd.func19, Tryd.ntmps19
  go_wp2_with (go_at_call 38; refine HI.out.mono ?_; rintro e w1 ⟨rfl, hi1, hf1⟩; have k1 := (hf1.cell (p := ⟨B, j, none⟩) hbl hBi).trans hc; have k2 := (hf1.frozen (p := ⟨B, j, none⟩) hbl hBi).trans hfz)
  go_end0
  exact ⟨rfl, w1, rfl, hi1, hf1⟩
set_option maxRecDepth 100000 in
theorem rtext (n : List UInt8) (u : Value) (hin : InAt w ib (Oct.text n ++ r) 0) (hl : (Oct.text n ++ r).length ≤ 281474976710656) (hc2 : w.cell? ⟨rb, 2, none⟩ = some (.pointer (some ⟨ib, 0, none⟩))) (hn : n.length ≤ 65536)
    (hc : w.cell? ⟨B, j, none⟩ = some u) (hfz : w.frozen? ⟨B, j, none⟩ = false) (hBi : B ≠ ib) :
    Calls Tryd.prog 39 #[.pointer (some ⟨rb, 0, none⟩), .pointer (some ⟨B, j, none⟩)] w (RP ib B j r w (.string ⟨n.toArray⟩)) := by
  have HI := hid (in_text ib (Oct.text n ++ r) 0 w hin hl)
  rw [rText_text hn] at HI
  have hbl : B < w.heap.size := World.block_lt_of_cell? w _ hc
  clear hin hl hn
  go_enter Tryd.func39, Tryd.ntmps39
  go_wp2_with (go_at_call 58; refine HI.out.mono ?_; rintro e w1 ⟨rfl, hi1, hf1⟩; have k1 := (hf1.cell (p := ⟨B, j, none⟩) hbl hBi).trans hc; have k2 := (hf1.frozen (p := ⟨B, j, none⟩) hbl hBi).trans hfz)
  go_end0
  exact ⟨rfl, w1, rfl, hi1, hf1⟩
set_option maxRecDepth 100000 in
theorem rflag (x : Bool) (u : Value) (hin : InAt w ib (Oct.flag x ++ r) 0) (hl : (Oct.flag x ++ r).length ≤ 281474976710656) (hc2 : w.cell? ⟨rb, 2, none⟩ = some (.pointer (some ⟨ib, 0, none⟩)))
    (hc : w.cell? ⟨B, j, none⟩ = some u) (hfz : w.frozen? ⟨B, j, none⟩ = false) (hBi : B ≠ ib) :
    Calls Tryd.prog 40 #[.pointer (some ⟨rb, 0, none⟩), .pointer (some ⟨B, j, none⟩)] w (RP ib B j r w (.bool x)) := by
  have HI := hid (in_bool ib (Oct.flag x ++ r) 0 w hin hl)
  rw [rBool_flag] at HI
  have hbl : B < w.heap.size := World.block_lt_of_cell? w _ hc
  clear hin hl
  go_enter Tryd.func40, Tryd.ntmps40
  go_wp2_with (go_at_call 60; refine HI.out.mono ?_; rintro e w1 ⟨rfl, hi1, hf1⟩; have k1 := (hf1.cell (p := ⟨B, j, none⟩) hbl hBi).trans hc; have k2 := (hf1.frozen (p := ⟨B, j, none⟩) hbl hBi).trans hfz)
  go_end0
  exact ⟨rfl, w1, rfl, hi1, hf1⟩
end

def R3 (a b c k : Nat) : Prop := k = a ∨ k = b ∨ k = c
def R2 (a b k : Nat) : Prop := k = a ∨ k = b
/-- A block's cells. -/
structure BC (w : World) (B : Nat) (cs : List Value) : Prop where
  cell : ∀ j, w.cell? ⟨B, j, none⟩ = cs[j]?
  fr : ∀ j, w.frozen? ⟨B, j, none⟩ = false
theorem BC.frm {w w' : World} {B : Nat} {cs : List Value} {S : Nat → Prop} (h : BC w B cs) (hl : B < w.heap.size) (hf : Frm S w w') (hS : ¬ S B) : BC w' B cs :=
  ⟨fun j => (hf.cell (p := ⟨B, j, none⟩) hl hS).trans (h.cell j), fun j => (hf.frozen (p := ⟨B, j, none⟩) hl hS).trans (h.fr j)⟩
theorem BC.set {w : World} {B : Nat} {cs : List Value} (h : BC w B cs) (j : Nat) (hj : j < cs.length) (x : Value) : BC (w.setCell ⟨B, j, none⟩ x) B (cs.set j x) := by
  refine ⟨fun i => ?_, fun i => by simpa using h.fr i⟩
  by_cases hij : i = j
  · subst hij
    have hc := h.cell i
    rw [List.getElem?_eq_getElem hj] at hc
    rw [World.cell?_setCell_same' w ⟨B, i, none⟩ x (by rw [hc]; rfl)]
    simp [hj]
  · rw [World.cell?_setCell_other w ⟨B, j, none⟩ ⟨B, i, none⟩ x (by intro e; injection e with _ e; omega), h.cell i, List.getElem?_set]
    rw [if_neg (by omega)]
theorem BC.at_ {w : World} {B : Nat} {cs : List Value} (h : BC w B cs) {j : Nat} (hj : j < cs.length) : w.cell? ⟨B, j, none⟩ = some cs[j] := by rw [h.cell j, List.getElem?_eq_getElem hj]
theorem BC.new (w : World) (cs : List Value) (T : TypeId) : BC (w.alloc (.cells cs.toArray T)) w.heap.size cs :=
  ⟨fun j => by rw [World.cell?_alloc_at _ _ _ _ rfl]; simp, fun j => World.frozen?_alloc_at _ _ _ _ rfl⟩
theorem frm_set {S : Nat → Prop} {ib B j : Nat} {w w1 : World} {v : Value} (hf : Frm (One ib) w w1) (h1 : ib < w.heap.size → S ib) (h2 : B < w.heap.size → S B) : Frm S w (w1.setCell ⟨B, j, none⟩ v) :=
  (hf.weak (fun i hi e => by have e : i = ib := e; subst e; exact h1 hi)).setCell (p := ⟨B, j, none⟩) h2 v

/-- The message at block xb is being read by the fields at rb, whose In lies at ib, its numbers into block kb. -/
structure RM (w0 wS w : World) (rb ib xb kb : Nat) (s : List UInt8) (cs : List Value) : Prop where
  in_ : InAt w ib s 0
  len : s.length ≤ 281474976710656
  c2 : w.cell? ⟨rb, 2, none⟩ = some (.pointer (some ⟨ib, 0, none⟩))
  base : Frm (R3 ib xb kb) w0 wS
  mov : Frm (R2 ib xb) wS w
  x : BC w xb cs
  lx : xb < w0.heap.size
  li : ib < w0.heap.size
  lr : rb < w0.heap.size
  n1 : rb ≠ ib
  n2 : rb ≠ xb
  n3 : rb ≠ kb
  n4 : ib ≠ xb
  n5 : ib ≠ kb
namespace RM
variable {w0 wS w : World} {rb ib xb kb : Nat} {s r : List UInt8} {cs : List Value}
theorem frm (h : RM w0 wS w rb ib xb kb s cs) : Frm (R3 ib xb kb) w0 w :=
  h.base.trans h.mov (fun _ _ h => h) (fun _ _ h => by rcases h with h | h; exact .inl h; exact .inr (.inl h))
theorem restart (h : RM w0 wS w rb ib xb kb s cs) : RM w0 w w rb ib xb kb s cs :=
  ⟨h.in_, h.len, h.c2, h.frm, Frm.refl _ _, h.x, h.lx, h.li, h.lr, h.n1, h.n2, h.n3, h.n4, h.n5⟩
theorem no {w' : World} (h : RM w0 wS w rb ib xb kb s cs) (hf : Frm No w w') : RM w0 wS w' rb ib xb kb s cs :=
  have hz := h.frm.size
  ⟨h.in_.frm hf (fun h => h), h.len, (hf.cell (p := ⟨rb, 2, none⟩) (Nat.lt_of_lt_of_le h.lr hz) (fun h => h)).trans h.c2, h.base, h.mov.thenNo hf, h.x.frm (Nat.lt_of_lt_of_le h.lx hz) hf (fun h => h), h.lx, h.li, h.lr, h.n1, h.n2, h.n3, h.n4, h.n5⟩
theorem eq {s' : List UInt8} {cs' : List Value} (h : RM w0 wS w rb ib xb kb s cs) (e : s = s') (e' : cs = cs') : RM w0 wS w rb ib xb kb s' cs' := by subst e e'; exact h
/-- A field of the message itself is set. -/
theorem put {w1 : World} {v : Value} (h : RM w0 wS w rb ib xb kb s cs) (hi : InAt w1 ib r 0) (hf : Frm (One ib) w w1) (hl : r.length ≤ s.length) (j : Nat) (hj : j < cs.length) : RM w0 wS (w1.setCell ⟨xb, j, none⟩ v) rb ib xb kb r (cs.set j v) := by
  have hz := h.frm.size
  have hF : Frm (R2 ib xb) w (w1.setCell ⟨xb, j, none⟩ v) := frm_set hf (fun _ => .inl rfl) (fun _ => .inr rfl)
  have h1 : Frm (One xb) w1 (w1.setCell ⟨xb, j, none⟩ v) := Frm.setCell (p := ⟨xb, j, none⟩) (Frm.refl (One xb) w1) (fun _ => rfl) v
  refine ⟨hi.frm h1 h.n4, Nat.le_trans hl h.len, ?_, h.base, h.mov.then_ hF, (h.x.frm (Nat.lt_of_lt_of_le h.lx hz) hf (fun e => h.n4 e.symm)).set j hj v, h.lx, h.li, h.lr, h.n1, h.n2, h.n3, h.n4, h.n5⟩
  refine (hF.cell (p := ⟨rb, 2, none⟩) (Nat.lt_of_lt_of_le h.lr hz) ?_).trans h.c2
  rintro (e | e)
  · exact h.n1 e
  · exact h.n2 e
/-- A cell of a block made since wS is set. -/
theorem putB {w1 : World} {v : Value} {B : Nat} (h : RM w0 wS w rb ib xb kb s cs) (hi : InAt w1 ib r 0) (hf : Frm (One ib) w w1) (hl : r.length ≤ s.length) (j : Nat) (hB : wS.heap.size ≤ B) : RM w0 wS (w1.setCell ⟨B, j, none⟩ v) rb ib xb kb r cs := by
  have hz := h.frm.size
  have hz0 := h.base.size
  have hr := h.lr
  have hx := h.lx
  have hi' := h.li
  have hF : Frm (fun k => k = ib ∨ k = B) w (w1.setCell ⟨B, j, none⟩ v) := frm_set hf (fun _ => .inl rfl) (fun _ => .inr rfl)
  have h1 : Frm (One B) w1 (w1.setCell ⟨B, j, none⟩ v) := Frm.setCell (p := ⟨B, j, none⟩) (Frm.refl (One B) w1) (fun _ => rfl) v
  refine ⟨hi.frm h1 (fun e => by have e : ib = B := e; omega), Nat.le_trans hl h.len, ?_, h.base, h.mov.trans hF (fun _ _ h => h) (fun i hi e => by rcases e with e | e; exact .inl e; omega), h.x.frm (Nat.lt_of_lt_of_le h.lx hz) hF (fun e => by rcases e with e | e; exact h.n4 e.symm; omega), h.lx, h.li, h.lr, h.n1, h.n2, h.n3, h.n4, h.n5⟩
  refine (hF.cell (p := ⟨rb, 2, none⟩) (Nat.lt_of_lt_of_le h.lr hz) ?_).trans h.c2
  rintro (e | e)
  · exact h.n1 e
  · have e : rb = B := e
    omega
/-- A cell of the block of numbers is set. -/
theorem putK {w1 : World} {v : Value} (h : RM w0 wS w rb ib xb kb s cs) (hi : InAt w1 ib r 0) (hf : Frm (One ib) w w1) (hl : r.length ≤ s.length) (j : Nat) (hx : kb ≠ xb) : RM w0 (w1.setCell ⟨kb, j, none⟩ v) (w1.setCell ⟨kb, j, none⟩ v) rb ib xb kb r cs := by
  have hz := h.frm.size
  have hF : Frm (fun k => k = ib ∨ k = kb) w (w1.setCell ⟨kb, j, none⟩ v) := frm_set hf (fun _ => .inl rfl) (fun _ => .inr rfl)
  have h1 : Frm (One kb) w1 (w1.setCell ⟨kb, j, none⟩ v) := Frm.setCell (p := ⟨kb, j, none⟩) (Frm.refl (One kb) w1) (fun _ => rfl) v
  refine ⟨hi.frm h1 h.n5, Nat.le_trans hl h.len, ?_, h.frm.trans hF (fun _ _ h => h) (fun i hi e => by rcases e with e | e; exact .inl e; exact .inr (.inr e)), Frm.refl _ _, h.x.frm (Nat.lt_of_lt_of_le h.lx hz) hF (fun e => by rcases e with e | e; exact h.n4 e.symm; exact hx e.symm), h.lx, h.li, h.lr, h.n1, h.n2, h.n3, h.n4, h.n5⟩
  refine (hF.cell (p := ⟨rb, 2, none⟩) (Nat.lt_of_lt_of_le h.lr hz) ?_).trans h.c2
  rintro (e | e)
  · exact h.n1 e
  · exact h.n3 e
end RM

/-- What a field of the message leaves. -/
def RMP (w0 wS : World) (rb ib xb kb : Nat) (s : List UInt8) (cs : List Value) (e : Ending) (w' : World) : Prop := e = .returned (.tuple #[]) ∧ RM w0 wS w' rb ib xb kb s cs
namespace RM
variable {w0 wS w : World} {rb ib xb kb : Nat} {r : List UInt8} {cs : List Value}
theorem num {n : Int} (h : RM w0 wS w rb ib xb kb (Oct.enc n ++ r) cs) (hn : Msg.num n = true) (j : Nat) (hj : j < cs.length) : Calls Tryd.prog 19 #[.pointer (some ⟨rb, 0, none⟩), .pointer (some ⟨xb, j, none⟩)] w (RMP w0 wS rb ib xb kb r (cs.set j (.int .i64 n))) := by
  refine (rnum n _ h.in_ h.len h.c2 hn (h.x.at_ hj) (h.x.fr j) (fun e => h.n4 e.symm)).mono ?_
  rintro e w' ⟨rfl, w1, rfl, hi, hf⟩
  exact ⟨rfl, h.put hi hf (by simp) j hj⟩
theorem text {n : List UInt8} (h : RM w0 wS w rb ib xb kb (Oct.text n ++ r) cs) (hn : n.length ≤ 65536) (j : Nat) (hj : j < cs.length) : Calls Tryd.prog 39 #[.pointer (some ⟨rb, 0, none⟩), .pointer (some ⟨xb, j, none⟩)] w (RMP w0 wS rb ib xb kb r (cs.set j (.string ⟨n.toArray⟩))) := by
  refine (rtext n _ h.in_ h.len h.c2 hn (h.x.at_ hj) (h.x.fr j) (fun e => h.n4 e.symm)).mono ?_
  rintro e w' ⟨rfl, w1, rfl, hi, hf⟩
  exact ⟨rfl, h.put hi hf (by simp) j hj⟩
theorem flag {n : Bool} (h : RM w0 wS w rb ib xb kb (Oct.flag n ++ r) cs) (j : Nat) (hj : j < cs.length) : Calls Tryd.prog 40 #[.pointer (some ⟨rb, 0, none⟩), .pointer (some ⟨xb, j, none⟩)] w (RMP w0 wS rb ib xb kb r (cs.set j (.bool n))) := by
  refine (rflag n _ h.in_ h.len h.c2 (h.x.at_ hj) (h.x.fr j) (fun e => h.n4 e.symm)).mono ?_
  rintro e w' ⟨rfl, w1, rfl, hi, hf⟩
  exact ⟨rfl, h.put hi hf (by simp) j hj⟩
/-- Into a block made since wS. -/
def PB (w0 wS w : World) (rb ib xb kb : Nat) (s : List UInt8) (cs : List Value) (B : Nat) (bs : List Value) (e : Ending) (w' : World) : Prop := e = .returned (.tuple #[]) ∧ RM w0 wS w' rb ib xb kb s cs ∧ BC w' B bs ∧ Frm (R2 ib B) w w'
theorem numB {n : Int} {B : Nat} {bs : List Value} (h : RM w0 wS w rb ib xb kb (Oct.enc n ++ r) cs) (hb : BC w B bs) (hB : wS.heap.size ≤ B) (hn : Msg.num n = true) (j : Nat) (hj : j < bs.length) : Calls Tryd.prog 19 #[.pointer (some ⟨rb, 0, none⟩), .pointer (some ⟨B, j, none⟩)] w (PB w0 wS w rb ib xb kb r cs B (bs.set j (.int .i64 n))) := by
  have h1 := h.li
  have h2 := h.base.size
  have hl : B < w.heap.size := World.block_lt_of_cell? w _ (hb.at_ hj)
  refine (rnum n _ h.in_ h.len h.c2 hn (hb.at_ hj) (hb.fr j) (by omega)).mono ?_
  rintro e w' ⟨rfl, w1, rfl, hi, hf⟩
  exact ⟨rfl, h.putB hi hf (by simp) j hB, (hb.frm hl hf (fun e => by have e : B = ib := e; omega)).set j hj _, frm_set hf (fun _ => .inl rfl) (fun _ => .inr rfl)⟩
theorem textB {n : List UInt8} {B : Nat} {bs : List Value} (h : RM w0 wS w rb ib xb kb (Oct.text n ++ r) cs) (hb : BC w B bs) (hB : wS.heap.size ≤ B) (hn : n.length ≤ 65536) (j : Nat) (hj : j < bs.length) : Calls Tryd.prog 39 #[.pointer (some ⟨rb, 0, none⟩), .pointer (some ⟨B, j, none⟩)] w (PB w0 wS w rb ib xb kb r cs B (bs.set j (.string ⟨n.toArray⟩))) := by
  have h1 := h.li
  have h2 := h.base.size
  have hl : B < w.heap.size := World.block_lt_of_cell? w _ (hb.at_ hj)
  refine (rtext n _ h.in_ h.len h.c2 hn (hb.at_ hj) (hb.fr j) (by omega)).mono ?_
  rintro e w' ⟨rfl, w1, rfl, hi, hf⟩
  exact ⟨rfl, h.putB hi hf (by simp) j hB, (hb.frm hl hf (fun e => by have e : B = ib := e; omega)).set j hj _, frm_set hf (fun _ => .inl rfl) (fun _ => .inr rfl)⟩
/-- Into the block of numbers. -/
theorem numK {n : Int} {bs : List Value} (h : RM w0 wS w rb ib xb kb (Oct.enc n ++ r) cs) (hb : BC w kb bs) (hx : kb ≠ xb) (hn : Msg.num n = true) (j : Nat) (hj : j < bs.length) :
    Calls Tryd.prog 19 #[.pointer (some ⟨rb, 0, none⟩), .pointer (some ⟨kb, j, none⟩)] w fun e w' => e = .returned (.tuple #[]) ∧ RM w0 w' w' rb ib xb kb r cs ∧ BC w' kb (bs.set j (.int .i64 n)) := by
  have hl : kb < w.heap.size := World.block_lt_of_cell? w _ (hb.at_ hj)
  refine (rnum n _ h.in_ h.len h.c2 hn (hb.at_ hj) (hb.fr j) (fun e => h.n5 e.symm)).mono ?_
  rintro e w' ⟨rfl, w1, rfl, hi, hf⟩
  exact ⟨rfl, h.putK hi hf (by simp) j hx, (hb.frm hl hf (fun e => h.n5 (by have e : kb = ib := e; exact e.symm))).set j hj _⟩
set_option maxRecDepth 100000 in
theorem one {x : Ent} {B : Nat} {u0 u1 u2 : Value} (h : RM w0 wS w rb ib xb kb (entB x ++ r) cs) (hb : BC w B [u0, u1, u2]) (hB : wS.heap.size ≤ B) (hx : entG x = true) :
    Calls Tryd.prog 61 #[.pointer (some ⟨rb, 0, none⟩), .pointer (some ⟨B, 0, none⟩)] w (PB w0 wS w rb ib xb kb r cs B (entV x)) := by
  obtain ⟨h1, h2, h3⟩ := ent_parts hx
  replace h := h.eq (s' := Oct.enc x.client ++ (Oct.enc x.number ++ (Oct.text x.text ++ r))) (by simp [entB]) rfl
  clear hx
  have C1 := hid (h.numB hb hB h1 0 (by simp))
  have C2 := hid (fun w1 (r1 : RM w0 wS w1 rb ib xb kb (Oct.enc x.number ++ (Oct.text x.text ++ r)) cs) (b1 : BC w1 B [.int .i64 x.client, u1, u2]) => r1.numB b1 hB h2 1 (by simp))
  have C3 := hid (fun w2 (r2 : RM w0 wS w2 rb ib xb kb (Oct.text x.text ++ r) cs) (b2 : BC w2 B [.int .i64 x.client, .int .i64 x.number, u2]) => r2.textB b2 hB (by omega) 2 (by simp))
  clear h hb
  go_enter Tryd.func61, Tryd.ntmps61
  go_wp2_with fail
  refine C1.out.mono ?_
  rintro e w1 ⟨rfl, r1, b1, g1⟩
  go_wp2_with fail
  refine (C2.out _ r1 b1).mono ?_
  rintro e w2 ⟨rfl, r2, b2, g2⟩
  go_wp2_with fail
  refine (C3.out _ r2 b2).mono ?_
  rintro e w3 ⟨rfl, r3, b3, g3⟩
  go_wp2_with fail
  go_end0
  exact ⟨rfl, r3, b3, (g1.then_ g2).then_ g3⟩
end RM
end Go.Proofs.YtaejcejfpcjifaaDoor
