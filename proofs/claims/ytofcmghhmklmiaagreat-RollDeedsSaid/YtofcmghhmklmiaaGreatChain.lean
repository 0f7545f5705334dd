/- Writing a chain of good values into an Out of the call's own. -/
import Derived.Test.YtofcmghhmklmiaaGreatOutAll
namespace Go.Proofs.YtofcmghhmklmiaaGreat
open Go.RowKit

/-- At block B, made since w0, lies an Out that has taken the bytes l, all of them good. -/
structure Chain (w0 w1 : World) (B : Nat) (v : Value) (l : List UInt8) (N : Nat) : Prop where
  at_ : OutAt w1 B 0 v l false
  hB : w0.heap.size ≤ B
  ge : ∀ k, v.ownBlock = some k → w0.heap.size ≤ k
  frm : Frm No w0 w1
  len : l.length ≤ N
theorem Chain.new {w0 w1 : World} (hf : Frm No w0 w1) (T : TypeId) : Chain w0 (w1.alloc (.cells #[.slice none 0 0, .bool false] T)) w1.heap.size (.slice none 0 0) [] 0 :=
  ⟨OutAt_new w1 T, hf.size, fun k h => (by cases h), hf.alloc _, by simp⟩
theorem Chain.post {w0 w1 w2 : World} {B : Nat} {v v2 : Value} {l l2 : List UInt8} {N N2 : Nat} (h : Chain w0 w1 B v l N) (hp : OutPost B 0 w1 v l2 false v2 w2) (hl : l2.length ≤ N2) : Chain w0 w2 B v2 l2 N2 :=
  ⟨hp.at_, h.hB, OutPost.ge hp h.frm.size h.ge, OutPost.no hp h.frm h.hB h.ge, hl⟩
theorem Chain.no {w0 w1 w2 : World} {B : Nat} {v : Value} {l : List UInt8} {N : Nat} (h : Chain w0 w1 B v l N) (hf : Frm No w1 w2) : Chain w0 w2 B v l N :=
  ⟨h.at_.frm hf (fun h => h) (fun _ _ h => h), h.hB, h.ge, h.frm.thenNo hf, h.len⟩
def ChainP (w0 : World) (B : Nat) (l : List UInt8) (N : Nat) (e : Ending) (w' : World) : Prop := e = .returned (.tuple #[]) ∧ ∃ v, Chain w0 w' B v l N

theorem Chain.int {w0 w1 : World} {B : Nat} {v : Value} {l : List UInt8} {N : Nat} (h : Chain w0 w1 B v l N) (n : Int) (hN : N ≤ 70368744177664) (hg : (Oct.enc n).isEmpty = false) :
    Calls Tryz.prog 34 #[.pointer (some ⟨B, 0, none⟩), .int .i64 n] w1 (ChainP w0 B (l ++ Oct.enc n) (N + 8)) := by
  have hl := h.len
  have he := Oct.enc_le n
  refine (out_int B 0 v l false n w1 h.at_ (by omega)).mono ?_
  rintro e w2 ⟨rfl, v2, hp⟩
  rw [hg] at hp
  exact ⟨rfl, v2, h.post hp (by simp only [List.length_append]; omega)⟩
theorem Chain.text {w0 w1 : World} {B : Nat} {v : Value} {l : List UInt8} {N : Nat} (h : Chain w0 w1 B v l N) (s : List UInt8) (hN : N ≤ 70368744177664) (hg : s.length ≤ 65536) :
    Calls Tryz.prog 35 #[.pointer (some ⟨B, 0, none⟩), .string ⟨s.toArray⟩] w1 (ChainP w0 B (l ++ Oct.text s) (N + 65544)) := by
  have hl := h.len
  have he := Oct.text_le s
  refine (out_text B 0 v l s false w1 h.at_ (by omega) (by omega)).mono ?_
  rintro e w2 ⟨rfl, v2, hp⟩
  rw [decide_eq_false (by omega)] at hp
  exact ⟨rfl, v2, h.post hp (by simp only [List.length_append]; omega)⟩
theorem Chain.texts {w0 w1 : World} {B : Nat} {v : Value} {l : List UInt8} {N : Nat} (h : Chain w0 w1 B v l N) (vs : Value) (ss : List (List UInt8)) (hN : N ≤ 17592186044416) (hn : ss.length ≤ 65536) (hg : Oct.badTexts ss = false)
    (hr : Rd w0 vs ss.length 1 (strsV ss)) :
    Calls Tryz.prog 36 #[.pointer (some ⟨B, 0, none⟩), vs] w1 (ChainP w0 B (l ++ (Oct.enc ss.length ++ Oct.texts ss)) (N + 4295557128)) := by
  have hl := h.len
  have he := Oct.enc_le ss.length
  have ht := Oct.texts_le ss
  have hs : ∀ s ∈ ss, s.length ≤ 281474976710656 := by
    intro s hs
    simp only [Oct.badTexts, List.any_eq_false, decide_eq_true_eq] at hg
    have := hg s hs
    omega
  refine (out_texts B 0 v l false vs ss w1 h.at_ (by omega) hs (hr.frm h.frm (fun _ _ h => h)) ?_).mono ?_
  · intro k hk h0
    obtain ⟨ao, c, rfl⟩ := hr.shape
    obtain ⟨b', o', rfl, hc⟩ := hr.at_ (by omega)
    have hck := hc 0 (by omega)
    have hb' : b' < w0.heap.size := by
      refine World.block_lt_of_cell? (u := .string ⟨(ss[0]'h0).toArray⟩) w0 ⟨b', o' + 0, none⟩ ?_
      rw [hck]
      simp [strsV]
    simp only [Value.ownBlock, Option.some.injEq] at hk
    have hB := h.hB
    rintro (rfl | hs)
    · omega
    · have := h.ge _ hs
      omega
  · rintro e w2 ⟨rfl, v2, hp⟩
    rw [hg, decide_eq_false (by omega)] at hp
    exact ⟨rfl, v2, h.post hp (by simp only [List.length_append]; omega)⟩
theorem Chain.bytes {w0 w1 : World} {B : Nat} {v : Value} {l : List UInt8} {N : Nat} (h : Chain w0 w1 B v l N) :
    Calls Tryz.prog 37 #[.pointer (some ⟨B, 0, none⟩)] w1 fun e w' => e = .returned (.tuple #[.string ⟨l.toArray⟩, .bool true]) ∧ w1 = w' :=
  out_bytes B 0 v l false w1 h.at_
end Go.Proofs.YtofcmghhmklmiaaGreat
