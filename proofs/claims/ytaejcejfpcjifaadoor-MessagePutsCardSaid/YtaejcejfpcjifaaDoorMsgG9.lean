/- The message of a frame. -/
import Derived.Test.YtaejcejfpcjifaaDoorMsgG8
import Derived.Test.YtaejcejfpcjifaaDoorFOpen
import Derived.Deep.MidRow
namespace Go.Proofs.YtaejcejfpcjifaaDoor
open Go.RowKit
open Msg

theorem len16 {α : Type} {l : List α} (h : l.length = 16) : ∃ a0 a1 a2 a3 a4 a5 a6 a7 a8 a9 a10 a11 a12 a13 a14 a15, l = [a0, a1, a2, a3, a4, a5, a6, a7, a8, a9, a10, a11, a12, a13, a14, a15] := by
  match l, h with
  | [a0, a1, a2, a3, a4, a5, a6, a7, a8, a9, a10, a11, a12, a13, a14, a15], _ => exact ⟨a0, a1, a2, a3, a4, a5, a6, a7, a8, a9, a10, a11, a12, a13, a14, a15, rfl⟩
theorem setCells_bc {w : World} {B : Nat} {cs vs : List Value} (h : BC w B cs) (hl : vs.length = cs.length) : BC (w.setCells B 0 vs) B vs := by
  have ht : w.there B 0 vs.length := fun j hj => ⟨by rw [Nat.zero_add, h.at_ (by omega)]; rfl, h.fr _⟩
  refine ⟨fun j => ?_, fun j => by rw [World.frozen?_setCells]; exact h.fr j⟩
  by_cases hj : j < vs.length
  · have := World.rangeAt_setCells_same w B 0 vs ht j vs[j] (List.getElem?_eq_getElem hj)
    rw [Nat.zero_add] at this
    rw [this, List.getElem?_eq_getElem hj]
  · rw [World.cell?_setCells_out B vs 0 w ⟨B, j, none⟩ (fun _ _ => .inr (by show 0 + vs.length ≤ j; omega)), h.cell j, List.getElem?_eq_none (by omega), List.getElem?_eq_none (by omega)]
theorem msC_one (m : Ms) (a b : Option Addr) (n c n' c' : Nat) : (msC m (.slice a n c) (.slice b n' c')).all (·.oneCell') = true := by simp [msC, Value.oneCell']
theorem there_bc {w : World} {B : Nat} {cs : List Value} (h : BC w B cs) {n : Nat} (hn : n ≤ cs.length) : w.there B 0 n := fun j hj => ⟨by rw [Nat.zero_add, h.at_ (by omega)]; rfl, h.fr _⟩
theorem setCells_frm (B : Nat) : ∀ (vs : List Value) (o : Nat) (w : World), Frm (One B) w (w.setCells B o vs)
  | [], _, w => Frm.refl _ w
  | v :: vs, o, w => (Frm.setCell (p := ⟨B, o, none⟩) (Frm.refl (One B) w) (fun _ => rfl) v).then_ (setCells_frm B vs (o + 1) _)

/-- A message's kind has been read, its numbers have a place. -/
structure GM (U wq : World) (m : Ms) (rb ib xb : Nat) : Prop where
  ex : ∃ kv kb, RM wq wq wq rb ib xb kb (restB m ++ []) (msZ m.kind kv false) ∧ ((m.kind = 1 ∧ Rd wq kv 0 1 [] ∧ ∀ g, kv.ownBlock = some g → ¬ R2 ib xb g) ∨ (m.kind ≠ 1 ∧ kv = .slice (some ⟨kb, 0, none⟩) m.known.length m.known.length ∧ kb ≠ xb ∧ kb ≠ ib ∧ kb < wq.heap.size ∧ BC wq kb (List.replicate m.known.length (.int .i64 0)))) ∧ U.heap.size ≤ kb ∧ (∀ g, kv.ownBlock = some g → U.heap.size ≤ g)
  frm : Frm No U wq
  hr : U.heap.size ≤ rb
  hi : U.heap.size ≤ ib
  hx : U.heap.size ≤ xb
  many : wq.cell? ⟨rb, 3, none⟩ = some (.bool false)
/-- All of it has been read. -/
structure GD (U w' : World) (m : Ms) (rb ib xb : Nat) : Prop where
  ex : ∃ kv ev, BC w' xb (msL m kv ev) ∧ MsR w' m kv ev ∧ (∀ g, kv.ownBlock = some g → U.heap.size ≤ g) ∧ (∀ g, ev.ownBlock = some g → U.heap.size ≤ g)
  in_ : InAt w' ib [] 0
  c2 : w'.cell? ⟨rb, 2, none⟩ = some (.pointer (some ⟨ib, 0, none⟩))
  many : w'.cell? ⟨rb, 3, none⟩ = some (.bool false)
  frm : Frm No U w'
  hx : U.heap.size ≤ xb
theorem GM.all {U wq : World} {m : Ms} {rb ib xb : Nat} (h : GM U wq m rb ib xb) (hW : WOk m) (hk : kindG m = true) (h1 : m.kind = 1 → m.known = []) (hp : proj m = m) :
    Calls Tryd.prog 20 #[.pointer (some ⟨xb, 0, none⟩), .pointer (some ⟨rb, 0, none⟩)] wq fun e w' => e = .returned (.tuple #[]) ∧ GD U w' m rb ib xb := by
  obtain ⟨kv, kb, hR, hcase, hkb, hkv⟩ := h.ex
  have done : ∀ e w', RMA wq rb ib xb kb [] (proj m) kv e w' → e = .returned (.tuple #[]) ∧ GD U w' m rb ib xb := by
    rintro e w' ⟨rfl, ev, hrm, he, hoe, hrk⟩
    rw [hp] at hrm he hrk
    have hf : Frm No U w' := h.frm.trans hrm.frm (fun _ _ h => h) (fun i hi s => by
      have := h.hi
      have := h.hx
      rcases s with s | s | s <;> omega)
    refine ⟨rfl, ⟨⟨kv, ev, hrm.x, ⟨hrk, he⟩, hkv, fun g hg => Nat.le_trans h.frm.size (hoe g hg)⟩, hrm.in_, hrm.c2, ?_, hf, h.hx⟩⟩
    refine (hrm.frm.cell (p := ⟨rb, 3, none⟩) hrm.lr ?_).trans h.many
    rintro (s | s | s)
    · exact hrm.n1 s
    · exact hrm.n2 s
    · exact hrm.n3 s
  rcases hcase with ⟨hk1, hrd, hno⟩ | ⟨hk1, rfl, hkx, hki, hkz, hbc⟩
  · have hkn := h1 hk1
    obtain ⟨kind, from_, born, known, view, last, op, commit, client, number, nonce, text, full, base, state, entries⟩ := m
    dsimp only at hk1 hkn
    subst hk1 hkn
    exact (RM.all1 from_ born [] view last op commit client number nonce text full base state entries hW kv hrd hno hR).mono done
  · exact (RM.all m hW hk false (fun _ => rfl) h1 hkx hki hkz hbc hR).mono done
end Go.Proofs.YtaejcejfpcjifaaDoor
