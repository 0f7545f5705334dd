/- The fields of a message, written one by one: num, text, flag, one. -/
import Derived.Test.YtaejcejfpcjifaaDoorMsgLaw
import Derived.Test.YtaejcejfpcjifaaDoorOutBo
import Derived.StillTailTactics
namespace Go.Proofs.YtaejcejfpcjifaaDoor
open Go.RowKit
open Msg

/-- At block fb lie fields that are written: so far the bytes l; since w0 only blocks of S, and new ones, have changed. -/
structure FW (S : Nat → Prop) (w0 w : World) (fb : Nat) (l : List UInt8) (N : Nat) : Prop where
  ex : ∃ v, OutAt w fb 0 v l false ∧ (∀ k, v.ownBlock = some k → S k ∨ w0.heap.size ≤ k)
  c2 : w.cell? ⟨fb, 2, none⟩ = some (.pointer none)
  frm : Frm S w0 w
  sf : S fb ∨ w0.heap.size ≤ fb
  len : l.length ≤ N
def FWP (S : Nat → Prop) (w0 : World) (fb : Nat) (l : List UInt8) (N : Nat) (e : Ending) (w' : World) : Prop := e = .returned (.tuple #[]) ∧ FW S w0 w' fb l N

theorem FW.post {S : Nat → Prop} {w0 w w' : World} {fb N N' : Nat} {l l' : List UInt8} {v v' : Value} (h : FW S w0 w fb l N) (hv : ∀ k, v.ownBlock = some k → S k ∨ w0.heap.size ≤ k) (hp : OutPost fb 0 w v l' false v' w') (hl : l'.length ≤ N') : FW S w0 w' fb l' N' := by
  refine ⟨⟨v', hp.at_, fun k hk => ?_⟩, ?_, h.frm.trans hp.frm (fun _ _ h => h) (fun i hi hs => ?_), h.sf, hl⟩
  · rcases hp.own with e | ⟨g, e, hg⟩
    · exact hv k (e ▸ hk)
    · rw [e] at hk
      cases hk
      exact .inr (Nat.le_trans h.frm.size hg)
  · exact (hp.rest 2 (by omega) (by omega)).trans h.c2
  · rcases hs with rfl | hs
    · rcases h.sf with h | h
      · exact h
      · omega
    · rcases hv i hs with h | h
      · exact h
      · omega
theorem FW.no {S : Nat → Prop} {w0 w w' : World} {fb N : Nat} {l : List UInt8} (h : FW S w0 w fb l N) (hf : Frm No w w') : FW S w0 w' fb l N := by
  obtain ⟨v, ho, hv⟩ := h.ex
  exact ⟨⟨v, ho.frm hf (fun h => h) (fun _ _ h => h), hv⟩, (hf.cell (p := ⟨fb, 2, none⟩) (World.block_lt_of_cell? w _ h.c2) (fun h => h)).trans h.c2, h.frm.thenNo hf, h.sf, h.len⟩
theorem FW.cell {S : Nat → Prop} {w0 w : World} {fb N b j : Nat} {l : List UInt8} {u : Value} (h : FW S w0 w fb l N) (hb : ¬ S b) (hc : w0.cell? ⟨b, j, none⟩ = some u) : w.cell? ⟨b, j, none⟩ = some u :=
  (h.frm.cell (p := ⟨b, j, none⟩) (World.block_lt_of_cell? w0 _ hc) hb).trans hc

theorem FW.weak {S : Nat → Prop} {w0 w : World} {fb N N' : Nat} {l l' : List UInt8} (h : FW S w0 w fb l N) (e : l = l') (hN : N ≤ N') : FW S w0 w fb l' N' := by
  subst e
  exact ⟨h.ex, h.c2, h.frm, h.sf, Nat.le_trans h.len hN⟩
theorem num_in {n : Int} (h : num n = true) : 0 ≤ n ∧ n ≤ 9007199254740992 := by simpa [num] using h
theorem enc_num {n : Int} (h : num n = true) : (Oct.enc n).isEmpty = false := by
  have := num_in h
  rw [enc_empty]
  simp
  omega

set_option maxRecDepth 100000 in
theorem FW.num {S : Nat → Prop} {w0 w : World} {fb N b j : Nat} {l : List UInt8} (h : FW S w0 w fb l N) (n : Int) (hc : w.cell? ⟨b, j, none⟩ = some (.int .i64 n)) (hn : num n = true) (hN : N ≤ 70368744177664) :
    Calls Tryd.prog 19 #[.pointer (some ⟨fb, 0, none⟩), .pointer (some ⟨b, j, none⟩)] w (FWP S w0 fb (l ++ Oct.enc n) (N + 8)) := by
  obtain ⟨v, ho, hv⟩ := h.ex
  have hl := h.len
  have he := Oct.enc_le n
  have hc2 := h.c2
  have HO := hid (out_int fb 0 v l false n w.drew ⟨ho.c0, ho.c1, ho.f, ho.row, ho.apart⟩ (by omega))
  have HP := hid (fun (w' : World) (v' : Value) (hp : OutPost fb 0 w.drew v (l ++ Oct.enc n) (false || (Oct.enc n).isEmpty) v' w') => (h.no (Frm.refl No w).drew).post hv (by rw [enc_num hn] at hp; exact hp) (N' := N + 8) (by simp only [List.length_append]; omega))
  clear ho hv h
  go_enter Tryd.func19, Tryd.ntmps19
  go_wp2_with fail
  go_still_tail 6, (by kernel_rfl)
  change wpList _ _ _ _ _ w.drew
  go_wp2_with (go_at_call 37; refine HO.out.mono ?_; rintro e w2 ⟨rfl, v2, hp⟩)
  go_end0
  exact ⟨rfl, HP.out _ _ hp⟩

set_option maxRecDepth 100000 in
theorem FW.text {S : Nat → Prop} {w0 w : World} {fb N b j : Nat} {l : List UInt8} (h : FW S w0 w fb l N) (s : List UInt8) (hc : w.cell? ⟨b, j, none⟩ = some (.string ⟨s.toArray⟩)) (hs : s.length ≤ 65536) (hN : N ≤ 70368744177664) :
    Calls Tryd.prog 39 #[.pointer (some ⟨fb, 0, none⟩), .pointer (some ⟨b, j, none⟩)] w (FWP S w0 fb (l ++ Oct.text s) (N + 65544)) := by
  obtain ⟨v, ho, hv⟩ := h.ex
  have hl := h.len
  have he := Oct.text_le s
  have hc2 := h.c2
  have HO := hid (out_text fb 0 v l s false w.drew ⟨ho.c0, ho.c1, ho.f, ho.row, ho.apart⟩ (by omega) (by omega))
  have HP := hid (fun (w' : World) (v' : Value) (hp : OutPost fb 0 w.drew v (l ++ Oct.text s) (false || decide (65536 < s.length)) v' w') => (h.no (Frm.refl No w).drew).post hv (by rw [decide_eq_false (by omega)] at hp; exact hp) (N' := N + 65544) (by simp only [List.length_append]; omega))
  clear ho hv h
  go_enter Tryd.func39, Tryd.ntmps39
  go_wp2_with fail
  go_still_tail 6, (by kernel_rfl)
  change wpList _ _ _ _ _ w.drew
  go_wp2_with (go_at_call 57; refine HO.out.mono ?_; rintro e w2 ⟨rfl, v2, hp⟩)
  go_end0
  exact ⟨rfl, HP.out _ _ hp⟩

set_option maxRecDepth 100000 in
theorem FW.flag {S : Nat → Prop} {w0 w : World} {fb N b j : Nat} {l : List UInt8} (h : FW S w0 w fb l N) (x : Bool) (hc : w.cell? ⟨b, j, none⟩ = some (.bool x)) (hN : N ≤ 70368744177664) :
    Calls Tryd.prog 40 #[.pointer (some ⟨fb, 0, none⟩), .pointer (some ⟨b, j, none⟩)] w (FWP S w0 fb (l ++ Oct.flag x) (N + 8)) := by
  obtain ⟨v, ho, hv⟩ := h.ex
  have hl := h.len
  have he : (Oct.flag x).length ≤ 1 := by cases x <;> exact Nat.le_refl _
  have hc2 := h.c2
  have HO := hid (out_bool fb 0 v l false x w.drew ⟨ho.c0, ho.c1, ho.f, ho.row, ho.apart⟩ (by omega))
  have HP := hid (fun (w' : World) (v' : Value) (hp : OutPost fb 0 w.drew v (l ++ Oct.flag x) false v' w') => (h.no (Frm.refl No w).drew).post hv hp (N' := N + 8) (by simp only [List.length_append]; omega))
  clear ho hv h
  go_enter Tryd.func40, Tryd.ntmps40
  go_wp2_with fail
  go_still_tail 6, (by kernel_rfl)
  change wpList _ _ _ _ _ w.drew
  go_wp2_with (go_at_call 59; refine HO.out.mono ?_; rintro e w2 ⟨rfl, v2, hp⟩)
  go_end0
  exact ⟨rfl, HP.out _ _ hp⟩

/-- An entry's cells. -/
def entV (x : Ent) : List Value := [.int .i64 x.client, .int .i64 x.number, .string ⟨x.text.toArray⟩]
theorem ent_parts {x : Ent} (h : entG x = true) : num x.client = true ∧ num x.number = true ∧ x.text.length ≤ 8192 := by
  simp only [entG, Bool.and_eq_true, decide_eq_true_eq] at h
  exact ⟨h.1.1.1.1, h.1.1.2, h.2⟩
set_option maxRecDepth 100000 in
theorem FW.one {S : Nat → Prop} {w0 w : World} {fb N b j : Nat} {l : List UInt8} (h : FW S w0 w fb l N) (x : Ent) (hb : ¬ S b) (hbl : b < w0.heap.size) (hc : ∀ i, i < 3 → w.cell? ⟨b, j + i, none⟩ = (entV x)[i]?) (hx : entG x = true) (hN : N ≤ 60000000000000) :
    Calls Tryd.prog 61 #[.pointer (some ⟨fb, 0, none⟩), .pointer (some ⟨b, j, none⟩)] w (FWP S w0 fb (l ++ entB x) (N + 65560)) := by
  obtain ⟨h1, h2, h3⟩ := ent_parts hx
  have k0 : w.cell? ⟨b, j, none⟩ = some (.int .i64 x.client) := hc 0 (by omega)
  have k1 : w.cell? ⟨b, j + 1, none⟩ = some (.int .i64 x.number) := hc 1 (by omega)
  have k2 : w.cell? ⟨b, j + 2, none⟩ = some (.string ⟨x.text.toArray⟩) := hc 2 (by omega)
  have HC := hid (fun (w' : World) (l' : List UInt8) (N' : Nat) (h' : FW S w0 w' fb l' N') i => show w'.cell? ⟨b, i, none⟩ = w.cell? ⟨b, i, none⟩ from (h'.frm.cell (p := ⟨b, i, none⟩) hbl hb).trans (h.frm.cell (p := ⟨b, i, none⟩) hbl hb).symm)
  have HK : Hid (entB x = Oct.enc x.client ++ Oct.enc x.number ++ Oct.text x.text) := hid rfl
  clear hc hx
  go_enter Tryd.func61, Tryd.ntmps61
  go_wp2_with fail
  refine (h.num _ k0 h1 (by omega)).mono ?_
  rintro e w1 ⟨rfl, f1⟩
  go_wp2_with fail
  refine (f1.num _ ((HC.out _ _ _ f1 _).trans k1) h2 (by omega)).mono ?_
  rintro e w2 ⟨rfl, f2⟩
  go_wp2_with fail
  refine (f2.text _ ((HC.out _ _ _ f2 _).trans k2) (by omega) (by omega)).mono ?_
  rintro e w3 ⟨rfl, f3⟩
  go_wp2_with fail
  go_end0
  refine ⟨rfl, ?_⟩
  exact f3.weak (by rw [HK.out]; simp only [List.append_assoc]) (by omega)
end Go.Proofs.YtaejcejfpcjifaaDoor
