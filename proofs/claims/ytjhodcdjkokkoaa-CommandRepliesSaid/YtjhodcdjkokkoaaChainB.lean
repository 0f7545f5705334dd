/- Writing a chain of any values into an Out of the call's own: a value that has no bytes makes it bad. -/
import Derived.Test.YtjhodcdjkokkoaaOut2
namespace Go.Proofs.Ytjhodcdjkokkoaa
open Go.RowKit

/-- At block B, made since w0, lies an Out that has taken the bytes l; bd: one of the values had none. -/
structure ChainB (w0 w1 : World) (B : Nat) (v : Value) (l : List UInt8) (bd : Bool) (N : Nat) : Prop where
  at_ : OutAt w1 B 0 v l bd
  hB : w0.heap.size ≤ B
  ge : ∀ k, v.ownBlock = some k → w0.heap.size ≤ k
  frm : Frm No w0 w1
  len : l.length ≤ N
theorem ChainB.new {w0 w1 : World} (hf : Frm No w0 w1) (T : TypeId) : ChainB w0 (w1.alloc (.cells #[.slice none 0 0, .bool false] T)) w1.heap.size (.slice none 0 0) [] false 0 :=
  ⟨OutAt_new w1 T, hf.size, fun k h => (by cases h), hf.alloc _, by simp⟩
theorem ChainB.post {w0 w1 w2 : World} {B : Nat} {v v2 : Value} {l l2 : List UInt8} {bd bd2 : Bool} {N N2 : Nat} (h : ChainB w0 w1 B v l bd N) (hp : OutPost B 0 w1 v l2 bd2 v2 w2) (hl : l2.length ≤ N2) : ChainB w0 w2 B v2 l2 bd2 N2 :=
  ⟨hp.at_, h.hB, OutPost.ge hp h.frm.size h.ge, OutPost.no hp h.frm h.hB h.ge, hl⟩
theorem ChainB.no {w0 w1 w2 : World} {B : Nat} {v : Value} {l : List UInt8} {bd : Bool} {N : Nat} (h : ChainB w0 w1 B v l bd N) (hf : Frm No w1 w2) : ChainB w0 w2 B v l bd N :=
  ⟨h.at_.frm hf (fun h => h) (fun _ _ h => h), h.hB, h.ge, h.frm.thenNo hf, h.len⟩
/-- What was said of it, said anew. -/
theorem ChainB.as {w0 w1 : World} {B : Nat} {v : Value} {l l2 : List UInt8} {bd bd2 : Bool} {N : Nat} (h : ChainB w0 w1 B v l bd N) (hl : l = l2) (hb : bd = bd2) : ChainB w0 w1 B v l2 bd2 N := by subst hl; subst hb; exact h
theorem ChainB.lt {w0 w1 : World} {B : Nat} {v : Value} {l : List UInt8} {bd : Bool} {N : Nat} (h : ChainB w0 w1 B v l bd N) : B < w1.heap.size := World.block_lt_of_cell? w1 _ h.at_.c0
theorem ChainB.out {w0 w1 : World} {B : Nat} {v : Value} {l : List UInt8} {bd : Bool} {N : Nat} (h : ChainB w0 w1 B v l bd N) : ∀ k, OutS B v k → k < w1.heap.size := by
  intro k hk
  rcases hk with rfl | hk
  · exact h.lt
  · exact (h.at_.row.lt k hk).2
def ChainBP (w0 : World) (B : Nat) (l : List UInt8) (bd : Bool) (N : Nat) (e : Ending) (w' : World) : Prop := e = .returned (.tuple #[]) ∧ ∃ v, ChainB w0 w' B v l bd N

theorem ChainB.int {w0 w1 : World} {B : Nat} {v : Value} {l : List UInt8} {bd : Bool} {N : Nat} (h : ChainB w0 w1 B v l bd N) (n : Int) (hN : N ≤ 70368744177664) :
    Calls Try.prog 24 #[.pointer (some ⟨B, 0, none⟩), .int .i64 n] w1 (ChainBP w0 B (l ++ Oct.enc n) (bd || (Oct.enc n).isEmpty) (N + 8)) := by
  have hl := h.len
  have he := Oct.enc_le n
  refine (out_int B 0 v l bd n w1 h.at_ (by omega)).mono ?_
  rintro e w2 ⟨rfl, v2, hp⟩
  exact ⟨rfl, v2, h.post hp (by simp only [List.length_append]; omega)⟩
theorem ChainB.text {w0 w1 : World} {B : Nat} {v : Value} {l : List UInt8} {bd : Bool} {N : Nat} (h : ChainB w0 w1 B v l bd N) (s : List UInt8) (hN : N ≤ 70368744177664) (hs : s.length ≤ 281474976710656) :
    Calls Try.prog 25 #[.pointer (some ⟨B, 0, none⟩), .string ⟨s.toArray⟩] w1 (ChainBP w0 B (l ++ Oct.text s) (bd || decide (65536 < s.length)) (N + 65544)) := by
  have hl := h.len
  have he := Oct.text_le s
  refine (out_text B 0 v l s bd w1 h.at_ (by omega) hs).mono ?_
  rintro e w2 ⟨rfl, v2, hp⟩
  exact ⟨rfl, v2, h.post hp (by simp only [List.length_append]; omega)⟩
theorem ChainB.texts {w0 w1 : World} {B : Nat} {v : Value} {l : List UInt8} {bd : Bool} {N : Nat} (h : ChainB w0 w1 B v l bd N) (vs : Value) (ss : List (List UInt8)) (hN : N ≤ 17592186044416) (hn : ss.length ≤ 65536)
    (hs : ∀ s ∈ ss, s.length ≤ 281474976710656) (hr : Rd w1 vs ss.length 1 (strsV ss)) (hd : ∀ k, vs.ownBlock = some k → 0 < ss.length → ¬ OutS B v k) :
    Calls Try.prog 26 #[.pointer (some ⟨B, 0, none⟩), vs] w1 (ChainBP w0 B (l ++ (Oct.enc ss.length ++ Oct.texts ss)) (bd || Oct.badTexts ss) (N + 4295557128)) := by
  have hl := h.len
  have he := Oct.enc_le ss.length
  have ht := Oct.texts_le ss
  refine (out_texts B 0 v l bd vs ss w1 h.at_ (by omega) hs hr hd).mono ?_
  rintro e w2 ⟨rfl, v2, hp⟩
  rw [decide_eq_false (by omega : ¬ 65536 < ss.length), Bool.false_or] at hp
  exact ⟨rfl, v2, h.post hp (by simp only [List.length_append]; omega)⟩
/-- A list that was there before the Out was made lies apart from it. -/
theorem ChainB.apart {w0 w1 : World} {B : Nat} {v vs : Value} {l : List UInt8} {bd : Bool} {N n : Nat} {xs : List Value} (h : ChainB w0 w1 B v l bd N) (hr : Rd w0 vs n 1 xs) : ∀ k, vs.ownBlock = some k → 0 < n → ¬ OutS B v k := by
  intro k hk h0
  obtain ⟨ao, c, rfl⟩ := hr.shape
  obtain ⟨b', o', rfl, hc⟩ := hr.at_ (by omega)
  have hck := hc 0 (by omega)
  have hb' : b' < w0.heap.size := World.block_lt_of_cell? w0 ⟨b', o' + 0, none⟩ hck
  simp only [Value.ownBlock, Option.some.injEq] at hk
  have hB := h.hB
  rintro (rfl | hs)
  · omega
  · have := h.ge _ hs
    omega
theorem ChainB.bytes {w0 w1 : World} {B : Nat} {v : Value} {l : List UInt8} {bd : Bool} {N : Nat} (h : ChainB w0 w1 B v l bd N) :
    Calls Try.prog 27 #[.pointer (some ⟨B, 0, none⟩)] w1 fun e w' => e = .returned (.tuple #[.string ⟨(if bd then [] else l).toArray⟩, .bool (!bd)]) ∧ w1 = w' :=
  out_bytes B 0 v l bd w1 h.at_
end Go.Proofs.Ytjhodcdjkokkoaa
