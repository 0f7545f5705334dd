/- The two messages that the laws make of a raw one. Printed by a program (msgmake.py). -/
import Derived.Test.YtaejcejfpcjifaaDoorRawAll
import Derived.Test.YtaejcejfpcjifaaDoorMsgG3
import Derived.Deep.RegionHeld3
import Derived.Deep.RegionLaw
import Derived.Deep.Cut
import Derived.Deep.CutRange
import Derived.Deep.CutBlock
namespace Go.Proofs.YtaejcejfpcjifaaDoor
open Go.RowKit
open Msg

theorem Frm.setAll {S : Nat → Prop} {a b : World} (h : Frm S a b) {B : Nat} (hp : B < a.heap.size → S B) (q : Nat) (vs : List Value) : Frm S a (b.setCells B q vs) :=
  h.trans (setCells_own B vs q b) (fun _ _ h => h) (fun i hi e => by have e : i = B := e; subst e; exact hp hi)
theorem there_new (w : World) (cs : Array Value) (T : TypeId) {n : Nat} (h : n ≤ cs.size) : (w.alloc (.cells cs T)).there w.heap.size 0 n := fun j hj =>
  ⟨by rw [World.cell?_alloc_at _ _ _ _ rfl, Nat.zero_add, Array.getElem?_eq_getElem (by omega)]; rfl, World.frozen?_alloc_at _ _ _ _ rfl⟩
theorem there_of {w : World} {C : Nat} {cs : Array Value} (hc : ∀ j, w.cell? ⟨C, j, none⟩ = cs[j]?) (hz : ∀ j, w.frozen? ⟨C, j, none⟩ = false) {n : Nat} (h : n ≤ cs.size) : w.there C 0 n := fun j hj =>
  ⟨by rw [Nat.zero_add, hc j, Array.getElem?_eq_getElem (by omega)]; rfl, hz _⟩
theorem msL_len' (m : Ms) (kv ev : Value) : (msL m kv ev).length = 16 := rfl
/-- The first message, without its entries, has been made since W: its numbers in a row of their own. -/
def MadeA (W wq : World) (m : Ms) (p : Value) : Prop := ∃ A ao cp, p = .pointer (some ⟨A, 0, none⟩) ∧ Box W wq A (msL m (.slice ao m.known.length cp) (.slice none 0 0)) ∧ Rd wq (.slice ao m.known.length cp) m.known.length 1 (intsV m.known) ∧ ∀ k, (Value.slice ao m.known.length cp).ownBlock = some k → k ≠ A ∧ W.heap.size ≤ k ∧ k < wq.heap.size
theorem madeA_a {W w4 : World} {m : Ms} {ao : Option Addr} {cp : Nat} {e T : TypeId} (hf : Frm No W w4) (ho : w4.ownsRow W.heap.size e 1 (.slice ao m.known.length cp) m.known.length (intsV m.known)) (zs : List Value) (hz : zs.length = 16) :
    MadeA W ((w4.alloc (.cells zs.toArray T)).setCells w4.heap.size 0 (msL m (.slice ao m.known.length cp) (.slice none 0 0))) m (.pointer (some ⟨w4.heap.size, 0, none⟩)) := by
  have hB := (Box.new hf zs T).setAll (msL m (.slice ao m.known.length cp) (.slice none 0 0)) (by rw [hz]; rfl)
  have hF : Frm (One w4.heap.size) w4 ((w4.alloc (.cells zs.toArray T)).setCells w4.heap.size 0 (msL m (.slice ao m.known.length cp) (.slice none 0 0))) := (((Frm.refl _ _).alloc _).then_ (setCells_own _ _ _ _))
  refine ⟨_, ao, cp, rfl, hB, (Rd.ofOwn ho).frm hF (fun k hk e => ?_), fun k hk => ?_⟩
  · have := (ho.lt k hk).2
    have e : k = w4.heap.size := e
    omega
  · have := ho.lt k hk
    have h2 := hF.size
    exact ⟨by omega, this.1, by omega⟩
theorem madeA_b {W w4 : World} {m : Ms} {ao : Option Addr} {cp C : Nat} {e : TypeId} (hf : Frm No W w4) (ho : w4.ownsRow W.heap.size e 1 (.slice ao m.known.length cp) m.known.length (intsV m.known)) (hC : W.heap.size ≤ C)
    (hv : ∀ k, (Value.slice ao m.known.length cp).ownBlock = some k → k ≠ C) {cs : Array Value} (hsz : cs.size = 16) (hc : ∀ j, w4.cell? ⟨C, j, none⟩ = cs[j]?) (hz : ∀ j, w4.frozen? ⟨C, j, none⟩ = false) :
    MadeA W (w4.setCells C 0 (msL m (.slice ao m.known.length cp) (.slice none 0 0))) m (.pointer (some ⟨C, 0, none⟩)) := by
  have hl : C < w4.heap.size := World.block_lt_of_cell? w4 ⟨C, 0, none⟩ ((hc 0).trans (Array.getElem?_eq_getElem (by omega)))
  have b0 : Box W w4 C cs.toList := ⟨hC, hl, fun j => by rw [hc j]; simp, hz, hf⟩
  have hB := b0.setAll (msL m (.slice ao m.known.length cp) (.slice none 0 0)) (show (msL m (.slice ao m.known.length cp) (.slice none 0 0)).length = cs.toList.length by rw [msL_len', Array.length_toList, hsz])
  have hF := setCells_own C (msL m (.slice ao m.known.length cp) (.slice none 0 0)) 0 w4
  refine ⟨_, ao, cp, rfl, hB, (Rd.ofOwn ho).frm hF (fun k hk e => hv k hk e), fun k hk => ?_⟩
  have := ho.lt k hk
  have h2 := hF.size
  exact ⟨hv k hk, this.1, by omega⟩
theorem built_a (k f b v l o c i n x s : Int) (t st : List UInt8) (u : Bool) (ao : Option Addr) (p q : Nat) : Tryd.prog.built 31 [(0, .int .i64 k), (1, .int .i64 f), (2, .int .i64 b), (4, .int .i64 v), (5, .int .i64 l), (6, .int .i64 o), (7, .int .i64 c), (8, .int .i64 i), (9, .int .i64 n), (10, .int .i64 x), (13, .int .i64 s), (3, .slice ao p q), (11, .string ⟨t.toArray⟩), (12, .bool u), (14, .string ⟨st.toArray⟩)] = some #[.int .i64 k, .int .i64 f, .int .i64 b, .slice ao p q, .int .i64 v, .int .i64 l, .int .i64 o, .int .i64 c, .int .i64 i, .int .i64 n, .int .i64 x, .string ⟨t.toArray⟩, .bool u, .int .i64 s, .string ⟨st.toArray⟩, .slice none 0 0] := by kernel_rfl
theorem built_b (k f b v l o c i n x s : Int) (t st : List UInt8) (u : Bool) (ao : Option Addr) (p q : Nat) : Tryd.prog.built 34 [(0, .int .i64 k), (1, .int .i64 f), (2, .int .i64 b), (4, .int .i64 v), (5, .int .i64 l), (6, .int .i64 o), (7, .int .i64 c), (8, .int .i64 i), (9, .int .i64 n), (10, .int .i64 x), (13, .int .i64 s), (3, .slice ao p q), (11, .string ⟨t.toArray⟩), (12, .bool u), (14, .string ⟨st.toArray⟩)] = some #[.int .i64 k, .int .i64 f, .int .i64 b, .slice ao p q, .int .i64 v, .int .i64 l, .int .i64 o, .int .i64 c, .int .i64 i, .int .i64 n, .int .i64 x, .string ⟨t.toArray⟩, .bool u, .int .i64 s, .string ⟨st.toArray⟩, .slice none 0 0] := by kernel_rfl
theorem built_e (a b : Int) (t : List UInt8) : Tryd.prog.built 49 [(0, .int .i64 a), (1, .int .i64 b), (2, .string ⟨t.toArray⟩)] = some #[.int .i64 a, .int .i64 b, .string ⟨t.toArray⟩] := by kernel_rfl
theorem info_int' : (Tryd.prog.info? 3).map (fun i => (i.zero, i.size, i.bytes)) = some (some (.int .i64 0), 1, 8) := by kernel_rfl
/-- In the loop: both messages lie at A and B, the entries so far in rows of their own. -/
def Two (a b k : Nat) : Prop := k = a ∨ k = b
structure ES (W3 WB w : World) (A B : Nat) (m : Ms) (ka kb e1 e2 : Value) (j : Nat) : Prop where
  bA : Box W3 w A (msL m ka e1)
  bB : Box W3 w B (msL m kb e2)
  r1 : w.ownsRow WB.heap.size 50 3 e1 j (entsV (m.entries.take j))
  r2 : w.ownsRow WB.heap.size 49 3 e2 j (entsV (m.entries.take j))
  ne : ∀ k, e1.ownBlock = some k → e2.ownBlock ≠ some k
  fr : Frm (Two A B) WB w
theorem ES.no {W3 WB w w' : World} {A B : Nat} {m : Ms} {ka kb e1 e2 : Value} {j : Nat} (h : ES W3 WB w A B m ka kb e1 e2 j) (hf : Frm No w w') : ES W3 WB w' A B m ka kb e1 e2 j :=
  ⟨h.bA.no hf, h.bB.no hf, hf.row h.r1 (fun _ _ h => h), hf.row h.r2 (fun _ _ h => h), h.ne, h.fr.thenNo hf⟩
/-- The blocks that the two appends may change. -/
def Rows2 (e1 e2 : Value) (k : Nat) : Prop := Own e1 k ∨ Own e2 k
theorem ES.apart {W3 WB w : World} {A B : Nat} {m : Ms} {ka kb e1 e2 : Value} {j : Nat} (h : ES W3 WB w A B m ka kb e1 e2 j) {k : Nat} (hk : k < WB.heap.size) : ¬ Rows2 e1 e2 k := by
  rintro (s | s)
  · have := (h.r1.lt k s).1; omega
  · have := (h.r2.lt k s).1; omega
theorem ents_snoc {m : Ms} {j : Nat} (h : j < m.entries.length) : entsV (m.entries.take (j + 1)) = entsV (m.entries.take j) ++ entV m.entries[j] := by
  rw [List.take_succ_eq_append_getElem h]
  simp only [entsV, List.flatMap_append, List.flatMap_cons, List.flatMap_nil, List.append_nil]
theorem msL_set15 (m : Ms) (kv ev x : Value) : (msL m kv ev).set 15 x = msL m kv x := rfl
/-- One round: whatever the order was, an append to each row, then the two stores. -/
theorem ES.step {W3 WB w X w4 Y w5 : World} {A B : Nat} {m : Ms} {ka kb e1 e2 f1 f2 : Value} {j : Nat} (h : ES W3 WB w A B m ka kb e1 e2 j) (hA : A < WB.heap.size) (hB : B < WB.heap.size) (hAB : A ≠ B) (hA3 : W3.heap.size ≤ A) (hB3 : W3.heap.size ≤ B) (hj : j < m.entries.length)
    (FX : Frm No w X) (o1 : w4.ownsRow WB.heap.size 50 3 f1 (j + 1) (entsV (m.entries.take j) ++ entV m.entries[j])) (F1 : Frm (Own e1) X w4) (v1 : f1.ownBlock = e1.ownBlock ∨ ∃ k, f1.ownBlock = some k ∧ X.heap.size ≤ k)
    (FY : Frm No w4 Y) (o2 : w5.ownsRow WB.heap.size 49 3 f2 (j + 1) (entsV (m.entries.take j) ++ entV m.entries[j])) (F2 : Frm (Own e2) Y w5) (v2 : f2.ownBlock = e2.ownBlock ∨ ∃ k, f2.ownBlock = some k ∧ Y.heap.size ≤ k) :
    ES W3 WB ((w5.setCell ⟨A, 15, none⟩ f1).setCell ⟨B, 15, none⟩ f2) A B m ka kb f1 f2 (j + 1) := by
  have hX := h.no FX
  have sX := FX.size
  have s1 := F1.size
  have sY := FY.size
  have s2 := F2.size
  have g1 : ∀ k, Own e1 k → W3.heap.size ≤ k := fun k hk => by have := (h.r1.lt k hk).1; omega
  have g2 : ∀ k, Own e2 k → W3.heap.size ≤ k := fun k hk => by have := (h.r2.lt k hk).1; omega
  have nA1 : ¬ Own e1 A := fun e => by have := (h.r1.lt A e).1; omega
  have nA2 : ¬ Own e2 A := fun e => by have := (h.r2.lt A e).1; omega
  have nB1 : ¬ Own e1 B := fun e => by have := (h.r1.lt B e).1; omega
  have nB2 : ¬ Own e2 B := fun e => by have := (h.r2.lt B e).1; omega
  have bA5 := ((hX.bA.other F1 nA1 g1).no FY).other F2 nA2 g2
  have bB5 := ((hX.bB.other F1 nB1 g1).no FY).other F2 nB2 g2
  have hlA : (15 : Nat) < (msL m ka e1).length := by rw [msL_len']; omega
  have hlB : (15 : Nat) < (msL m kb e2).length := by rw [msL_len']; omega
  have bA6 := (bA5.set 15 hlA f1).setOther hB3 hAB 15 f2
  have bB6 := (bB5.setOther hA3 (Ne.symm hAB) 15 f1).set 15 hlB f2
  have hne : ∀ k, f1.ownBlock = some k → f2.ownBlock ≠ some k := by
    intro k hk e
    have hk4 := (o1.lt k hk).2
    rcases v2 with v2 | ⟨k2, v2, hk2⟩
    · rw [v2] at e
      rcases v1 with v1 | ⟨k1, v1, hk1⟩
      · rw [v1] at hk
        exact h.ne k hk e
      · rw [v1] at hk
        have := (h.r2.lt k e).2
        simp only [Option.some.injEq] at hk
        omega
    · rw [v2] at e
      simp only [Option.some.injEq] at e
      omega
  have o1' : w5.ownsRow WB.heap.size 50 3 f1 (j + 1) (entsV (m.entries.take j) ++ entV m.entries[j]) := F2.row (FY.row o1 (fun _ _ h => h)) (fun k hk e => by
    rcases v1 with v1 | ⟨k1, v1, hk1⟩
    · rw [v1] at hk
      exact h.ne k hk e
    · rw [v1] at hk
      have := (h.r2.lt k e).2
      simp only [Option.some.injEq] at hk
      omega)
  have stA : Frm (One A) w5 (w5.setCell ⟨A, 15, none⟩ f1) := setCell_own f1
  have stB : Frm (One B) (w5.setCell ⟨A, 15, none⟩ f1) ((w5.setCell ⟨A, 15, none⟩ f1).setCell ⟨B, 15, none⟩ f2) := setCell_own f2
  have hrow : ∀ {T : TypeId} {f : Value} {xs : List Value}, w5.ownsRow WB.heap.size T 3 f (j + 1) xs → ((w5.setCell ⟨A, 15, none⟩ f1).setCell ⟨B, 15, none⟩ f2).ownsRow WB.heap.size T 3 f (j + 1) xs := fun {T f xs} o =>
    stB.row (stA.row o (fun k hk e => by have e : k = A := e; have := (o.lt k hk).1; omega)) (fun k hk e => by have e : k = B := e; have := (o.lt k hk).1; omega)
  refine ⟨bA6, bB6, ?_, ?_, hne, ?_⟩
  · rw [ents_snoc hj]; exact hrow o1'
  · rw [ents_snoc hj]; exact hrow o2
  · have t1 : Frm (Two A B) WB X := h.fr.thenNo FX
    have t2 : Frm (Two A B) WB w4 := t1.trans F1 (fun _ _ h => h) (fun i hi e => by have := (h.r1.lt i e).1; omega)
    have t3 : Frm (Two A B) WB w5 := (t2.thenNo FY).trans F2 (fun _ _ h => h) (fun i hi e => by have := (h.r2.lt i e).1; omega)
    exact (t3.trans stA (fun _ _ h => h) (fun i _ e => .inl e)).trans stB (fun _ _ h => h) (fun i _ e => .inr e)
theorem src_ent {P : Program} {w : World} {t e : TypeId} {B : Nat} {y : Ent} (ht : P.underlying t = some (.slice e)) (hc : ∀ j, w.cell? ⟨B, j, none⟩ = (entV y)[j]?) : Src P 3 t (.slice (some ⟨B, 0, none⟩) 1 1) 1 (entV y) w :=
  Src.ofSlice _ ht ⟨B, 0, none⟩ 1 1 (entV y) rfl (fun j u hj => by rw [Addr.add_lit, Nat.zero_add, hc j, hj]) (fun u hu => by
    simp only [entV, List.mem_cons, List.not_mem_nil, or_false] at hu
    rcases hu with rfl | rfl | rfl <;> rfl)
theorem info_ment' : (Tryd.prog.info? 50).map (fun i => (i.zero, i.size, i.bytes)) = some (some (.agg #[.int .i64 0, .int .i64 0, .string ByteArray.empty]), 3, 32) := by kernel_rfl
theorem info_rent' : (Tryd.prog.info? 49).map (fun i => (i.zero, i.size, i.bytes)) = some (some (.agg #[.int .i64 0, .int .i64 0, .string ByteArray.empty]), 3, 32) := by kernel_rfl
theorem new_two (w : World) (o : Obj) (l : List Value) (T : TypeId) (q : Nat) : ((w.alloc o).alloc (.cells l.toArray T)).cell? ⟨w.heap.size + 1, q, none⟩ = l[q]? := by
  rw [World.cell?_alloc_at _ _ _ _ (by simp)]
  simp
theorem new_one (w : World) (o : Obj) (l : List Value) (T : TypeId) (q : Nat) : ((w.alloc (.cells l.toArray T)).alloc o).cell? ⟨w.heap.size, q, none⟩ = l[q]? := by
  refine (((Frm.refl No (w.alloc (.cells l.toArray T))).alloc o).cell (p := ⟨w.heap.size, q, none⟩) (by simp) (fun h => h)).trans ?_
  rw [World.cell?_alloc_at _ _ _ _ rfl]
  simp
theorem src_new2 {P : Program} {X w4 : World} {t e : TypeId} {blk : Nat} {y : Ent} {v : Value} (ht : P.underlying t = some (.slice e)) (hf : Frm (Own v) X w4) (hc : ∀ j, X.cell? ⟨blk, j, none⟩ = (entV y)[j]?) (hl : blk < X.heap.size) (hn : ¬ Own v blk) :
    Src P 3 t (.slice (some ⟨blk, 0, none⟩) 1 1) 1 (entV y) w4 := src_ent ht (fun q => (hf.cell (p := ⟨blk, q, none⟩) hl hn).trans (hc q))
theorem msL_one (m : Ms) (a b : Option Addr) (n c n' c' : Nat) : (msL m (.slice a n c) (.slice b n' c')).toArray.all (·.oneCell') = true := by simp [msL, msC, Value.oneCell']
theorem size_a {l : List Value} (h : l.length = 16) : (Tryd.prog.info? 31).map (·.size) = some l.toArray.size := by rw [List.size_toArray, h]; kernel_rfl
theorem size_a' {l : List Value} (h : l.length = 16) : (Tryd.prog.info? 31).map (·.size) = some l.length := by rw [h]; kernel_rfl
theorem size_b {l : List Value} (h : l.length = 16) : (Tryd.prog.info? 34).map (·.size) = some l.toArray.size := by rw [List.size_toArray, h]; kernel_rfl
theorem size_b' {l : List Value} (h : l.length = 16) : (Tryd.prog.info? 34).map (·.size) = some l.length := by rw [h]; kernel_rfl
theorem Box.thereA {w0 w : World} {C : Nat} {cs : List Value} (h : Box w0 w C cs) {vs : List Value} (hn : vs.length = cs.length) : w.there C 0 vs.toArray.size := h.there (by simp; omega)

def RawAt (w W : World) (m : Ms) (kao eao : Option Addr) (kcp ecp b nb r1 r2 : Nat) : Prop := Box w W b [.int .i64 m.kind, .int .i64 m.from_, .int .i64 m.born, .int .i64 m.view, .int .i64 m.last, .int .i64 m.op, .int .i64 m.commit, .int .i64 m.client, .int .i64 m.number, .int .i64 m.nonce, .int .i64 m.base, .slice kao m.known.length kcp, .string ⟨m.text.toArray⟩, .bool m.full, .string ⟨m.state.toArray⟩, .slice eao m.entries.length ecp] ∧ Box w W nb [.int .i64 m.from_, .int .i64 m.born, .int .i64 m.view, .int .i64 m.last, .int .i64 m.op, .int .i64 m.commit, .int .i64 m.client, .int .i64 m.number, .int .i64 m.nonce, .int .i64 m.base] ∧ Box w W r1 [.int .i64 0, .int .i64 0, .int .i64 0, .slice none 0 0, .int .i64 0, .int .i64 0, .int .i64 0, .int .i64 0, .int .i64 0, .int .i64 0, .int .i64 0, .string ⟨#[]⟩, .bool false, .int .i64 0, .string ⟨#[]⟩, .slice none 0 0] ∧ Box w W r2 [.int .i64 0, .int .i64 0, .int .i64 0, .slice none 0 0, .int .i64 0, .int .i64 0, .int .i64 0, .int .i64 0, .int .i64 0, .int .i64 0, .int .i64 0, .string ⟨#[]⟩, .bool false, .int .i64 0, .string ⟨#[]⟩, .slice none 0 0]

set_option maxRecDepth 100000 in
set_option maxHeartbeats 8000000 in
theorem made_any (m : Ms) (kv ev : Value) (w : World) (h : RawK w m kv ev) (hl : Lil m) :
    Calls Tryd.prog 6 #[rawV m kv ev] w fun e w' => ∃ kv1 ev1 ev2, e = .returned (.tuple #[msV m kv1 ev1, msV m kv ev2]) ∧ MsR w' m kv1 ev1 ∧ MsR w' m kv ev2 ∧ Frm No w w' := by
  have l3 := hl.known
  have l4 := hl.ents
  have hr := h.rd
  obtain ⟨kao, kcp, rfl⟩ := hr.kr.shape
  obtain ⟨eao, ecp, rfl⟩ := hr.er.shape
  have HR := hid hr
  obtain ⟨i0, gi, gz0, gz1, gz2⟩ := info_parts info_int'
  clear h hl hr
  have HV : Hid (rawV m (.slice kao m.known.length kcp) (.slice eao m.entries.length ecp) = .agg #[.int .i64 m.kind, .int .i64 m.from_, .int .i64 m.born, .int .i64 m.view, .int .i64 m.last, .int .i64 m.op, .int .i64 m.commit, .int .i64 m.client, .int .i64 m.number, .int .i64 m.nonce, .int .i64 m.base, .slice kao m.known.length kcp, .string ⟨m.text.toArray⟩, .bool m.full, .string ⟨m.state.toArray⟩, .slice eao m.entries.length ecp]) := hid rfl
  rw [HV.out]
  clear HV
  go_enter Tryd.func6, Tryd.ntmps6
  go_upto_region 2 with fail

  have X0 := Box.new (Frm.refl No w) [.int .i64 m.kind, .int .i64 m.from_, .int .i64 m.born, .int .i64 m.view, .int .i64 m.last, .int .i64 m.op, .int .i64 m.commit, .int .i64 m.client, .int .i64 m.number, .int .i64 m.nonce, .int .i64 m.base, .slice kao m.known.length kcp, .string ⟨m.text.toArray⟩, .bool m.full, .string ⟨m.state.toArray⟩, .slice eao m.entries.length ecp] 26
  have X1 := Box.new X0.frm [.int .i64 0, .int .i64 0, .int .i64 0, .slice none 0 0, .int .i64 0, .int .i64 0, .int .i64 0, .int .i64 0, .int .i64 0, .int .i64 0, .int .i64 0, .string ⟨#[]⟩, .bool false, .int .i64 0, .string ⟨#[]⟩, .slice none 0 0] 31
  have X2 := Box.new X1.frm [.int .i64 0, .int .i64 0, .int .i64 0, .slice none 0 0, .int .i64 0, .int .i64 0, .int .i64 0, .int .i64 0, .int .i64 0, .int .i64 0, .int .i64 0, .string ⟨#[]⟩, .bool false, .int .i64 0, .string ⟨#[]⟩, .slice none 0 0] 34
  have X3 := Box.new X2.frm [.int .i64 m.from_, .int .i64 m.born, .int .i64 m.view, .int .i64 m.last, .int .i64 m.op, .int .i64 m.commit, .int .i64 m.client, .int .i64 m.number, .int .i64 m.nonce, .int .i64 m.base] 22
  have Y0 := ((X0.no ((Frm.refl No _).alloc (.cells #[.int .i64 0, .int .i64 0, .int .i64 0, .slice none 0 0, .int .i64 0, .int .i64 0, .int .i64 0, .int .i64 0, .int .i64 0, .int .i64 0, .int .i64 0, .string ⟨#[]⟩, .bool false, .int .i64 0, .string ⟨#[]⟩, .slice none 0 0] 31))).no ((Frm.refl No _).alloc (.cells #[.int .i64 0, .int .i64 0, .int .i64 0, .slice none 0 0, .int .i64 0, .int .i64 0, .int .i64 0, .int .i64 0, .int .i64 0, .int .i64 0, .int .i64 0, .string ⟨#[]⟩, .bool false, .int .i64 0, .string ⟨#[]⟩, .slice none 0 0] 34))).no ((Frm.refl No _).alloc (.cells #[.int .i64 m.from_, .int .i64 m.born, .int .i64 m.view, .int .i64 m.last, .int .i64 m.op, .int .i64 m.commit, .int .i64 m.client, .int .i64 m.number, .int .i64 m.nonce, .int .i64 m.base] 22))
  have Y1 := (X1.no ((Frm.refl No _).alloc (.cells #[.int .i64 0, .int .i64 0, .int .i64 0, .slice none 0 0, .int .i64 0, .int .i64 0, .int .i64 0, .int .i64 0, .int .i64 0, .int .i64 0, .int .i64 0, .string ⟨#[]⟩, .bool false, .int .i64 0, .string ⟨#[]⟩, .slice none 0 0] 34))).no ((Frm.refl No _).alloc (.cells #[.int .i64 m.from_, .int .i64 m.born, .int .i64 m.view, .int .i64 m.last, .int .i64 m.op, .int .i64 m.commit, .int .i64 m.client, .int .i64 m.number, .int .i64 m.nonce, .int .i64 m.base] 22))
  have Y2 := X2.no ((Frm.refl No _).alloc (.cells #[.int .i64 m.from_, .int .i64 m.born, .int .i64 m.view, .int .i64 m.last, .int .i64 m.op, .int .i64 m.commit, .int .i64 m.client, .int .i64 m.number, .int .i64 m.nonce, .int .i64 m.base] 22))
  clear X0 X1 X2
  simp only [World.size_alloc] at Y0 Y1 Y2 X3
  have hz3 : w.heap.size + 1 + 1 + 1 + 1 = ((((w.alloc (.cells #[.int .i64 m.kind, .int .i64 m.from_, .int .i64 m.born, .int .i64 m.view, .int .i64 m.last, .int .i64 m.op, .int .i64 m.commit, .int .i64 m.client, .int .i64 m.number, .int .i64 m.nonce, .int .i64 m.base, .slice kao m.known.length kcp, .string ⟨m.text.toArray⟩, .bool m.full, .string ⟨m.state.toArray⟩, .slice eao m.entries.length ecp] 26)).alloc (.cells #[.int .i64 0, .int .i64 0, .int .i64 0, .slice none 0 0, .int .i64 0, .int .i64 0, .int .i64 0, .int .i64 0, .int .i64 0, .int .i64 0, .int .i64 0, .string ⟨#[]⟩, .bool false, .int .i64 0, .string ⟨#[]⟩, .slice none 0 0] 31)).alloc (.cells #[.int .i64 0, .int .i64 0, .int .i64 0, .slice none 0 0, .int .i64 0, .int .i64 0, .int .i64 0, .int .i64 0, .int .i64 0, .int .i64 0, .int .i64 0, .string ⟨#[]⟩, .bool false, .int .i64 0, .string ⟨#[]⟩, .slice none 0 0] 34)).alloc (.cells #[.int .i64 m.from_, .int .i64 m.born, .int .i64 m.view, .int .i64 m.last, .int .i64 m.op, .int .i64 m.commit, .int .i64 m.client, .int .i64 m.number, .int .i64 m.nonce, .int .i64 m.base] 22)).heap.size := by simp
  obtain ⟨W3, hW3⟩ : ∃ W3, W3 = ((((w.alloc (.cells #[.int .i64 m.kind, .int .i64 m.from_, .int .i64 m.born, .int .i64 m.view, .int .i64 m.last, .int .i64 m.op, .int .i64 m.commit, .int .i64 m.client, .int .i64 m.number, .int .i64 m.nonce, .int .i64 m.base, .slice kao m.known.length kcp, .string ⟨m.text.toArray⟩, .bool m.full, .string ⟨m.state.toArray⟩, .slice eao m.entries.length ecp] 26)).alloc (.cells #[.int .i64 0, .int .i64 0, .int .i64 0, .slice none 0 0, .int .i64 0, .int .i64 0, .int .i64 0, .int .i64 0, .int .i64 0, .int .i64 0, .int .i64 0, .string ⟨#[]⟩, .bool false, .int .i64 0, .string ⟨#[]⟩, .slice none 0 0] 31)).alloc (.cells #[.int .i64 0, .int .i64 0, .int .i64 0, .slice none 0 0, .int .i64 0, .int .i64 0, .int .i64 0, .int .i64 0, .int .i64 0, .int .i64 0, .int .i64 0, .string ⟨#[]⟩, .bool false, .int .i64 0, .string ⟨#[]⟩, .slice none 0 0] 34)).alloc (.cells #[.int .i64 m.from_, .int .i64 m.born, .int .i64 m.view, .int .i64 m.last, .int .i64 m.op, .int .i64 m.commit, .int .i64 m.client, .int .i64 m.number, .int .i64 m.nonce, .int .i64 m.base] 22)) := ⟨_, rfl⟩
  rw [← hW3] at Y0 Y1 Y2 X3 hz3 ⊢
  clear hW3
  obtain ⟨b, hb⟩ : ∃ b, w.heap.size = b := ⟨_, rfl⟩
  rw [hb] at Y0 Y1 Y2 X3 hz3
  simp only [hb]
  obtain ⟨r1, hr1⟩ : ∃ r, b + 1 = r := ⟨_, rfl⟩
  rw [hr1] at Y1 Y2 X3 hz3
  simp only [hr1]
  obtain ⟨r2, hr2⟩ : ∃ r, r1 + 1 = r := ⟨_, rfl⟩
  rw [hr2] at Y2 X3 hz3
  simp only [hr2]
  obtain ⟨nb, hnb⟩ : ∃ r, r2 + 1 = r := ⟨_, rfl⟩
  rw [hnb] at X3 hz3
  simp only [hnb]
  have HR1 := hid Y1
  have HR2 := hid Y2
  have HF3 := hid Y0.frm
  have HX := hid (fun w' (hf : Frm No W3 w') j => (Y0.no hf).cell j)
  have HN := hid (fun w' (hf : Frm No W3 w') j => (X3.no hf).cell j)
  have HS := hid (fun w' (hf : Frm No W3 w') => src_ints Tryd.underlying23 ((HR.out.kr.frm (HF3.out.thenNo hf) (fun _ _ h => h))))
  clear Y0 Y1 Y2 X3
  have HK : Hid (∀ w', Frm No W3 w' → w'.cell? ⟨b, 0, none⟩ = some (.int .i64 m.kind) ∧ w'.cell? ⟨nb, 0, none⟩ = some (.int .i64 m.from_) ∧ w'.cell? ⟨nb, 1, none⟩ = some (.int .i64 m.born) ∧ w'.cell? ⟨nb, 2, none⟩ = some (.int .i64 m.view) ∧ w'.cell? ⟨nb, 3, none⟩ = some (.int .i64 m.last) ∧ w'.cell? ⟨nb, 4, none⟩ = some (.int .i64 m.op) ∧ w'.cell? ⟨nb, 5, none⟩ = some (.int .i64 m.commit) ∧ w'.cell? ⟨nb, 6, none⟩ = some (.int .i64 m.client) ∧ w'.cell? ⟨nb, 7, none⟩ = some (.int .i64 m.number) ∧ w'.cell? ⟨nb, 8, none⟩ = some (.int .i64 m.nonce) ∧ w'.cell? ⟨nb, 9, none⟩ = some (.int .i64 m.base) ∧ w'.cell? ⟨b, 11, none⟩ = some (.slice kao m.known.length kcp) ∧ w'.cell? ⟨b, 12, none⟩ = some (.string ⟨m.text.toArray⟩) ∧ w'.cell? ⟨b, 13, none⟩ = some (.bool m.full) ∧ w'.cell? ⟨b, 14, none⟩ = some (.string ⟨m.state.toArray⟩)) := hid fun w' hf => ⟨HX.out w' hf 0, HN.out w' hf 0, HN.out w' hf 1, HN.out w' hf 2, HN.out w' hf 3, HN.out w' hf 4, HN.out w' hf 5, HN.out w' hf 6, HN.out w' hf 7, HN.out w' hf 8, HN.out w' hf 9, HX.out w' hf 11, HX.out w' hf 12, HX.out w' hf 13, HX.out w' hf 14⟩
  go_cut [5] from 9 to 43 (fun p wq => MadeA W3 wq m p)
  case first =>
    as_aux_lemma =>
    clear HX HN HR1 HR2 HR
    refine wp_region_late (fun w' => w'.cell? ⟨b, 0, none⟩ = some (.int .i64 m.kind) ∧ w'.cell? ⟨nb, 0, none⟩ = some (.int .i64 m.from_) ∧ w'.cell? ⟨nb, 1, none⟩ = some (.int .i64 m.born) ∧ w'.cell? ⟨nb, 2, none⟩ = some (.int .i64 m.view) ∧ w'.cell? ⟨nb, 3, none⟩ = some (.int .i64 m.last) ∧ w'.cell? ⟨nb, 4, none⟩ = some (.int .i64 m.op) ∧ w'.cell? ⟨nb, 5, none⟩ = some (.int .i64 m.commit) ∧ w'.cell? ⟨nb, 6, none⟩ = some (.int .i64 m.client) ∧ w'.cell? ⟨nb, 7, none⟩ = some (.int .i64 m.number) ∧ w'.cell? ⟨nb, 8, none⟩ = some (.int .i64 m.nonce) ∧ w'.cell? ⟨nb, 9, none⟩ = some (.int .i64 m.base) ∧ w'.cell? ⟨b, 11, none⟩ = some (.slice kao m.known.length kcp) ∧ w'.cell? ⟨b, 12, none⟩ = some (.string ⟨m.text.toArray⟩) ∧ w'.cell? ⟨b, 13, none⟩ = some (.bool m.full) ∧ w'.cell? ⟨b, 14, none⟩ = some (.string ⟨m.state.toArray⟩)) [34] (by kernel_rfl) (HK.out _ (Frm.refl _ _).drew) (fun hHeld => ?_)
    refine wpLate_take0 (i := 0) (oi := _) (v := _) rfl (by kernel_rfl) (by kernel_rfl) (by kernel_rfl) (by kernel_rfl) (fun _ _ _ h => h) (Or.inl ⟨by rfl, by intro w _; go_simp; all_goals with_reducible rfl⟩) (fun _ => by assumption) ?_
    (try simp only [Act.put, List.getElem_toArray, List.getElem_cons_zero, List.setIfInBounds_toArray, List.set_cons_zero, List.set_cons_succ])
    refine wpLate_take [32, 34] (i := 1) (oi := _) (v := _) rfl (by kernel_rfl) (by kernel_rfl) (by kernel_rfl) (by kernel_rfl) (by kernel_rfl) (fun _ _ _ h => h) (Or.inl ⟨by rfl, by intro w hSw; (try dsimp only at hSw); go_simp; all_goals with_reducible rfl⟩) (by assumption) ?_
    (try simp only [Act.put, List.getElem_toArray, List.getElem_cons_succ, List.getElem_cons_zero, List.setIfInBounds_toArray, List.set_cons_zero, List.set_cons_succ])
    refine wpLate_take0 (i := 2) (oi := _) (v := _) rfl (by kernel_rfl) (by kernel_rfl) (by kernel_rfl) (by kernel_rfl) (fun _ _ _ h => h) (Or.inl ⟨by rfl, by intro w _; go_simp; all_goals with_reducible rfl⟩) (fun _ => by assumption) ?_
    (try simp only [Act.put, List.getElem_toArray, List.getElem_cons_succ, List.getElem_cons_zero, List.setIfInBounds_toArray, List.set_cons_zero, List.set_cons_succ])
    refine wpLate_take [32, 34] (i := 3) (oi := _) (v := _) rfl (by kernel_rfl) (by kernel_rfl) (by kernel_rfl) (by kernel_rfl) (by kernel_rfl) (fun _ _ _ h => h) (Or.inl ⟨by rfl, by intro w hSw; (try dsimp only at hSw); go_simp; all_goals with_reducible rfl⟩) (by assumption) ?_
    (try simp only [Act.put, List.getElem_toArray, List.getElem_cons_succ, List.getElem_cons_zero, List.setIfInBounds_toArray, List.set_cons_zero, List.set_cons_succ])
    refine wpLate_take0 (i := 4) (oi := _) (v := _) rfl (by kernel_rfl) (by kernel_rfl) (by kernel_rfl) (by kernel_rfl) (fun _ _ _ h => h) (Or.inl ⟨by rfl, by intro w _; go_simp; all_goals with_reducible rfl⟩) (fun _ => by assumption) ?_
    (try simp only [Act.put, List.getElem_toArray, List.getElem_cons_succ, List.getElem_cons_zero, List.setIfInBounds_toArray, List.set_cons_zero, List.set_cons_succ])
    refine wpLate_take [32, 34] (i := 5) (oi := _) (v := _) rfl (by kernel_rfl) (by kernel_rfl) (by kernel_rfl) (by kernel_rfl) (by kernel_rfl) (fun _ _ _ h => h) (Or.inl ⟨by rfl, by intro w hSw; (try dsimp only at hSw); go_simp; all_goals with_reducible rfl⟩) (by assumption) ?_
    (try simp only [Act.put, List.getElem_toArray, List.getElem_cons_succ, List.getElem_cons_zero, List.setIfInBounds_toArray, List.set_cons_zero, List.set_cons_succ])
    refine wpLate_take0 (i := 6) (oi := _) (v := _) rfl (by kernel_rfl) (by kernel_rfl) (by kernel_rfl) (by kernel_rfl) (fun _ _ _ h => h) (Or.inl ⟨by rfl, by intro w _; go_simp; all_goals with_reducible rfl⟩) (fun _ => by assumption) ?_
    (try simp only [Act.put, List.getElem_toArray, List.getElem_cons_succ, List.getElem_cons_zero, List.setIfInBounds_toArray, List.set_cons_zero, List.set_cons_succ])
    refine wpLate_take [32, 34] (i := 7) (oi := _) (v := _) rfl (by kernel_rfl) (by kernel_rfl) (by kernel_rfl) (by kernel_rfl) (by kernel_rfl) (fun _ _ _ h => h) (Or.inl ⟨by rfl, by intro w hSw; (try dsimp only at hSw); go_simp; all_goals with_reducible rfl⟩) (by assumption) ?_
    (try simp only [Act.put, List.getElem_toArray, List.getElem_cons_succ, List.getElem_cons_zero, List.setIfInBounds_toArray, List.set_cons_zero, List.set_cons_succ])
    refine wpLate_take0 (i := 8) (oi := _) (v := _) rfl (by kernel_rfl) (by kernel_rfl) (by kernel_rfl) (by kernel_rfl) (fun _ _ _ h => h) (Or.inl ⟨by rfl, by intro w _; go_simp; all_goals with_reducible rfl⟩) (fun _ => by assumption) ?_
    (try simp only [Act.put, List.getElem_toArray, List.getElem_cons_succ, List.getElem_cons_zero, List.setIfInBounds_toArray, List.set_cons_zero, List.set_cons_succ])
    refine wpLate_take [32, 34] (i := 9) (oi := _) (v := _) rfl (by kernel_rfl) (by kernel_rfl) (by kernel_rfl) (by kernel_rfl) (by kernel_rfl) (fun _ _ _ h => h) (Or.inl ⟨by rfl, by intro w hSw; (try dsimp only at hSw); go_simp; all_goals with_reducible rfl⟩) (by assumption) ?_
    (try simp only [Act.put, List.getElem_toArray, List.getElem_cons_succ, List.getElem_cons_zero, List.setIfInBounds_toArray, List.set_cons_zero, List.set_cons_succ])
    refine wpLate_take0 (i := 10) (oi := _) (v := _) rfl (by kernel_rfl) (by kernel_rfl) (by kernel_rfl) (by kernel_rfl) (fun _ _ _ h => h) (Or.inl ⟨by rfl, by intro w _; go_simp; all_goals with_reducible rfl⟩) (fun _ => by assumption) ?_
    (try simp only [Act.put, List.getElem_toArray, List.getElem_cons_succ, List.getElem_cons_zero, List.setIfInBounds_toArray, List.set_cons_zero, List.set_cons_succ])
    refine wpLate_take [32, 34] (i := 11) (oi := _) (v := _) rfl (by kernel_rfl) (by kernel_rfl) (by kernel_rfl) (by kernel_rfl) (by kernel_rfl) (fun _ _ _ h => h) (Or.inl ⟨by rfl, by intro w hSw; (try dsimp only at hSw); go_simp; all_goals with_reducible rfl⟩) (by assumption) ?_
    (try simp only [Act.put, List.getElem_toArray, List.getElem_cons_succ, List.getElem_cons_zero, List.setIfInBounds_toArray, List.set_cons_zero, List.set_cons_succ])
    refine wpLate_take0 (i := 12) (oi := _) (v := _) rfl (by kernel_rfl) (by kernel_rfl) (by kernel_rfl) (by kernel_rfl) (fun _ _ _ h => h) (Or.inl ⟨by rfl, by intro w _; go_simp; all_goals with_reducible rfl⟩) (fun _ => by assumption) ?_
    (try simp only [Act.put, List.getElem_toArray, List.getElem_cons_succ, List.getElem_cons_zero, List.setIfInBounds_toArray, List.set_cons_zero, List.set_cons_succ])
    refine wpLate_take [32, 34] (i := 13) (oi := _) (v := _) rfl (by kernel_rfl) (by kernel_rfl) (by kernel_rfl) (by kernel_rfl) (by kernel_rfl) (fun _ _ _ h => h) (Or.inl ⟨by rfl, by intro w hSw; (try dsimp only at hSw); go_simp; all_goals with_reducible rfl⟩) (by assumption) ?_
    (try simp only [Act.put, List.getElem_toArray, List.getElem_cons_succ, List.getElem_cons_zero, List.setIfInBounds_toArray, List.set_cons_zero, List.set_cons_succ])
    refine wpLate_take0 (i := 14) (oi := _) (v := _) rfl (by kernel_rfl) (by kernel_rfl) (by kernel_rfl) (by kernel_rfl) (fun _ _ _ h => h) (Or.inl ⟨by rfl, by intro w _; go_simp; all_goals with_reducible rfl⟩) (fun _ => by assumption) ?_
    (try simp only [Act.put, List.getElem_toArray, List.getElem_cons_succ, List.getElem_cons_zero, List.setIfInBounds_toArray, List.set_cons_zero, List.set_cons_succ])
    refine wpLate_take [32, 34] (i := 15) (oi := _) (v := _) rfl (by kernel_rfl) (by kernel_rfl) (by kernel_rfl) (by kernel_rfl) (by kernel_rfl) (fun _ _ _ h => h) (Or.inl ⟨by rfl, by intro w hSw; (try dsimp only at hSw); go_simp; all_goals with_reducible rfl⟩) (by assumption) ?_
    (try simp only [Act.put, List.getElem_toArray, List.getElem_cons_succ, List.getElem_cons_zero, List.setIfInBounds_toArray, List.set_cons_zero, List.set_cons_succ])
    refine wpLate_take0 (i := 16) (oi := _) (v := _) rfl (by kernel_rfl) (by kernel_rfl) (by kernel_rfl) (by kernel_rfl) (fun _ _ _ h => h) (Or.inl ⟨by rfl, by intro w _; go_simp; all_goals with_reducible rfl⟩) (fun _ => by assumption) ?_
    (try simp only [Act.put, List.getElem_toArray, List.getElem_cons_succ, List.getElem_cons_zero, List.setIfInBounds_toArray, List.set_cons_zero, List.set_cons_succ])
    refine wpLate_take [32, 34] (i := 17) (oi := _) (v := _) rfl (by kernel_rfl) (by kernel_rfl) (by kernel_rfl) (by kernel_rfl) (by kernel_rfl) (fun _ _ _ h => h) (Or.inl ⟨by rfl, by intro w hSw; (try dsimp only at hSw); go_simp; all_goals with_reducible rfl⟩) (by assumption) ?_
    (try simp only [Act.put, List.getElem_toArray, List.getElem_cons_succ, List.getElem_cons_zero, List.setIfInBounds_toArray, List.set_cons_zero, List.set_cons_succ])
    refine wpLate_take0 (i := 18) (oi := _) (v := _) rfl (by kernel_rfl) (by kernel_rfl) (by kernel_rfl) (by kernel_rfl) (fun _ _ _ h => h) (Or.inl ⟨by rfl, by intro w _; go_simp; all_goals with_reducible rfl⟩) (fun _ => by assumption) ?_
    (try simp only [Act.put, List.getElem_toArray, List.getElem_cons_succ, List.getElem_cons_zero, List.setIfInBounds_toArray, List.set_cons_zero, List.set_cons_succ])
    refine wpLate_take [32, 34] (i := 19) (oi := _) (v := _) rfl (by kernel_rfl) (by kernel_rfl) (by kernel_rfl) (by kernel_rfl) (by kernel_rfl) (fun _ _ _ h => h) (Or.inl ⟨by rfl, by intro w hSw; (try dsimp only at hSw); go_simp; all_goals with_reducible rfl⟩) (by assumption) ?_
    (try simp only [Act.put, List.getElem_toArray, List.getElem_cons_succ, List.getElem_cons_zero, List.setIfInBounds_toArray, List.set_cons_zero, List.set_cons_succ])
    refine wpLate_take0 (i := 20) (oi := _) (v := _) rfl (by kernel_rfl) (by kernel_rfl) (by kernel_rfl) (by kernel_rfl) (fun _ _ _ h => h) (Or.inl ⟨by rfl, by intro w _; go_simp; all_goals with_reducible rfl⟩) (fun _ => by assumption) ?_
    (try simp only [Act.put, List.getElem_toArray, List.getElem_cons_succ, List.getElem_cons_zero, List.setIfInBounds_toArray, List.set_cons_zero, List.set_cons_succ])
    refine wpLate_take [32, 34] (i := 21) (oi := _) (v := _) rfl (by kernel_rfl) (by kernel_rfl) (by kernel_rfl) (by kernel_rfl) (by kernel_rfl) (fun _ _ _ h => h) (Or.inl ⟨by rfl, by intro w hSw; (try dsimp only at hSw); go_simp; all_goals with_reducible rfl⟩) (by assumption) ?_
    (try simp only [Act.put, List.getElem_toArray, List.getElem_cons_succ, List.getElem_cons_zero, List.setIfInBounds_toArray, List.set_cons_zero, List.set_cons_succ])
    refine wpLate_take0 (i := 23) (oi := _) (v := _) rfl (by kernel_rfl) (by kernel_rfl) (by kernel_rfl) (by kernel_rfl) (fun _ _ _ h => h) (Or.inl ⟨by rfl, by intro w _; go_simp; all_goals with_reducible rfl⟩) (fun _ => by assumption) ?_
    (try simp only [Act.put, List.getElem_toArray, List.getElem_cons_succ, List.getElem_cons_zero, List.setIfInBounds_toArray, List.set_cons_zero, List.set_cons_succ])
    refine wpLate_take [25, 32, 34] (i := 24) (oi := _) (v := _) rfl (by kernel_rfl) (by kernel_rfl) (by kernel_rfl) (by kernel_rfl) (by kernel_rfl) (fun _ _ _ h => h) (Or.inl ⟨by rfl, by intro w hSw; (try dsimp only at hSw); go_simp; all_goals with_reducible rfl⟩) (by assumption) ?_
    (try simp only [Act.put, List.getElem_toArray, List.getElem_cons_succ, List.getElem_cons_zero, List.setIfInBounds_toArray, List.set_cons_zero, List.set_cons_succ])
    refine wpLate_take0 (i := 26) (oi := _) (v := _) rfl (by kernel_rfl) (by kernel_rfl) (by kernel_rfl) (by kernel_rfl) (fun _ _ _ h => h) (Or.inl ⟨by rfl, by intro w _; go_simp; all_goals with_reducible rfl⟩) (fun _ => by assumption) ?_
    (try simp only [Act.put, List.getElem_toArray, List.getElem_cons_succ, List.getElem_cons_zero, List.setIfInBounds_toArray, List.set_cons_zero, List.set_cons_succ])
    refine wpLate_take [32, 34] (i := 27) (oi := _) (v := _) rfl (by kernel_rfl) (by kernel_rfl) (by kernel_rfl) (by kernel_rfl) (by kernel_rfl) (fun _ _ _ h => h) (Or.inl ⟨by rfl, by intro w hSw; (try dsimp only at hSw); go_simp; all_goals with_reducible rfl⟩) (by assumption) ?_
    (try simp only [Act.put, List.getElem_toArray, List.getElem_cons_succ, List.getElem_cons_zero, List.setIfInBounds_toArray, List.set_cons_zero, List.set_cons_succ])
    refine wpLate_take0 (i := 28) (oi := _) (v := _) rfl (by kernel_rfl) (by kernel_rfl) (by kernel_rfl) (by kernel_rfl) (fun _ _ _ h => h) (Or.inl ⟨by rfl, by intro w _; go_simp; all_goals with_reducible rfl⟩) (fun _ => by assumption) ?_
    (try simp only [Act.put, List.getElem_toArray, List.getElem_cons_succ, List.getElem_cons_zero, List.setIfInBounds_toArray, List.set_cons_zero, List.set_cons_succ])
    refine wpLate_take [32, 34] (i := 29) (oi := _) (v := _) rfl (by kernel_rfl) (by kernel_rfl) (by kernel_rfl) (by kernel_rfl) (by kernel_rfl) (fun _ _ _ h => h) (Or.inl ⟨by rfl, by intro w hSw; (try dsimp only at hSw); go_simp; all_goals with_reducible rfl⟩) (by assumption) ?_
    (try simp only [Act.put, List.getElem_toArray, List.getElem_cons_succ, List.getElem_cons_zero, List.setIfInBounds_toArray, List.set_cons_zero, List.set_cons_succ])
    refine wpLate_take0 (i := 30) (oi := _) (v := _) rfl (by kernel_rfl) (by kernel_rfl) (by kernel_rfl) (by kernel_rfl) (fun _ _ _ h => h) (Or.inl ⟨by rfl, by intro w _; go_simp; all_goals with_reducible rfl⟩) (fun _ => by assumption) ?_
    (try simp only [Act.put, List.getElem_toArray, List.getElem_cons_succ, List.getElem_cons_zero, List.setIfInBounds_toArray, List.set_cons_zero, List.set_cons_succ])
    refine wpLate_take [32, 34] (i := 31) (oi := _) (v := _) rfl (by kernel_rfl) (by kernel_rfl) (by kernel_rfl) (by kernel_rfl) (by kernel_rfl) (fun _ _ _ h => h) (Or.inl ⟨by rfl, by intro w hSw; (try dsimp only at hSw); go_simp; all_goals with_reducible rfl⟩) (by assumption) ?_
    (try simp only [Act.put, List.getElem_toArray, List.getElem_cons_succ, List.getElem_cons_zero, List.setIfInBounds_toArray, List.set_cons_zero, List.set_cons_succ])
    refine wpLate_ready (rs := [22, 33]) (by kernel_rfl) (by simp) ?_
    refine (AllReadyL.cons (i := 22) rfl (fun K hK => ?_) (AllReadyL.cons (i := 33) rfl (fun K hK => ?_) AllReadyL.nil))
    ·
      simp only [List.getElem_toArray, List.getElem_cons_succ, List.getElem_cons_zero]
      go_simp
      refine hK.out _ _ (HK.out _ (by repeat (first | with_reducible exact Frm.refl _ _ | with_reducible exact F4 | with_reducible refine Frm.drew ?_ | with_reducible refine Frm.alloc ?_ _ | with_reducible refine Frm.setAll ?_ (fun h => by have g4 := F4.size; first | (simp at h; done) | (simp at h; omega)) _ _ | with_reducible refine Frm.setCell ?_ (fun h => by have g4 := F4.size; first | (simp at h; done) | (simp at h; omega)) _))) (fun hHeld => ?_)
      clear hK K
      (try simp only [Act.put, List.getElem_toArray, List.getElem_cons_succ, List.getElem_cons_zero, List.setIfInBounds_toArray, List.set_cons_zero, List.set_cons_succ])
      refine wpLate_ready (rs := [25, 33]) (by kernel_rfl) (by simp) ?_
      refine (AllReadyL.cons (i := 25) rfl (fun K hK => ?_) (AllReadyL.cons (i := 33) rfl (fun K hK => ?_) AllReadyL.nil))
      ·
        refine step_append_own rfl (.tmp 33) (.tmp 35) 23 23 rfl W3.heap.size 3 i0 _ 1 8 Tryd.underlying23 gi gz0 gz1 gz2 rfl (.slice (some ⟨W3.heap.size, 0, none⟩) 0 0) 0 [] (by simp [Act.eval]) (own_empty 3 (Nat.le_refl _)) (.slice kao m.known.length kcp) m.known.length (intsV m.known) (by simp [Act.eval]) (HS.out _ (by repeat (first | with_reducible exact Frm.refl _ _ | with_reducible exact F4 | with_reducible refine Frm.drew ?_ | with_reducible refine Frm.alloc ?_ _ | with_reducible refine Frm.setAll ?_ (fun h => by have g4 := F4.size; first | (simp at h; done) | (simp at h; omega)) _ _ | with_reducible refine Frm.setCell ?_ (fun h => by have g4 := F4.size; first | (simp at h; done) | (simp at h; omega)) _))) (by unfold maxLen; omega) (by omega) (by first | (simp; done) | (simp; omega)) ?_; intro v4 w4 hown4 hf4 hv4; rw [Nat.zero_add, List.nil_append] at hown4; have F4 : Frm No W3 w4 := own_a hf4; obtain ⟨ao4, c4, hsh4⟩ := ownsRow_shape hown4; subst hsh4
        refine hK.out _ _ (HK.out _ (by repeat (first | with_reducible exact Frm.refl _ _ | with_reducible exact F4 | with_reducible refine Frm.drew ?_ | with_reducible refine Frm.alloc ?_ _ | with_reducible refine Frm.setAll ?_ (fun h => by have g4 := F4.size; first | (simp at h; done) | (simp at h; omega)) _ _ | with_reducible refine Frm.setCell ?_ (fun h => by have g4 := F4.size; first | (simp at h; done) | (simp at h; omega)) _))) (fun hHeld => ?_)
        clear hK K
        (try simp only [Act.put, List.getElem_toArray, List.getElem_cons_succ, List.getElem_cons_zero, List.setIfInBounds_toArray, List.set_cons_zero, List.set_cons_succ])
        refine wpLate_take0 (i := 32) (oi := _) (v := .agg #[.int .i64 m.kind, .int .i64 m.from_, .int .i64 m.born, .slice ao4 m.known.length c4, .int .i64 m.view, .int .i64 m.last, .int .i64 m.op, .int .i64 m.commit, .int .i64 m.client, .int .i64 m.number, .int .i64 m.nonce, .string ⟨m.text.toArray⟩, .bool m.full, .int .i64 m.base, .string ⟨m.state.toArray⟩, .slice none 0 0]) rfl (by kernel_rfl) (by kernel_rfl) (by kernel_rfl) (by kernel_rfl) (fun _ _ _ h => h) (yields_build (by rfl) 31 _ rfl _ [(0, .int .i64 m.kind), (1, .int .i64 m.from_), (2, .int .i64 m.born), (4, .int .i64 m.view), (5, .int .i64 m.last), (6, .int .i64 m.op), (7, .int .i64 m.commit), (8, .int .i64 m.client), (9, .int .i64 m.number), (10, .int .i64 m.nonce), (13, .int .i64 m.base), (3, .slice ao4 m.known.length c4), (11, .string ⟨m.text.toArray⟩), (12, .bool m.full), (14, .string ⟨m.state.toArray⟩)] (by simp [Act.eval]) (built_a _ _ _ _ _ _ _ _ _ _ _ _ _ _ _ _ _)) (fun _ => by assumption) ?_
        (try simp only [Act.put, List.getElem_toArray, List.getElem_cons_succ, List.getElem_cons_zero, List.setIfInBounds_toArray, List.set_cons_zero, List.set_cons_succ])
        refine wpLate_ready (rs := [33]) (by kernel_rfl) (by simp) ?_
        refine (AllReadyL.cons (i := 33) rfl (fun K hK => ?_) AllReadyL.nil)
        simp only [List.getElem_toArray, List.getElem_cons_succ, List.getElem_cons_zero]
        go_simp
        refine hK.out _ _ (HK.out _ (by repeat (first | with_reducible exact Frm.refl _ _ | with_reducible exact F4 | with_reducible refine Frm.drew ?_ | with_reducible refine Frm.alloc ?_ _ | with_reducible refine Frm.setAll ?_ (fun h => by have g4 := F4.size; first | (simp at h; done) | (simp at h; omega)) _ _ | with_reducible refine Frm.setCell ?_ (fun h => by have g4 := F4.size; first | (simp at h; done) | (simp at h; omega)) _))) (fun hHeld => ?_)
        clear hK K
        (try simp only [Act.put, List.getElem_toArray, List.getElem_cons_succ, List.getElem_cons_zero, List.setIfInBounds_toArray, List.set_cons_zero, List.set_cons_succ])
        refine wpLate_ready (rs := [34]) (by kernel_rfl) (by simp) ?_
        refine (AllReadyL.late (i := 34) rfl (by kernel_rfl) (fun K hK => ?_) AllReadyL.nil)
        refine step_store_mid rfl 31 (.tmp 5) (.tmp 43) rfl w4.heap.size 0 #[.int .i64 m.kind, .int .i64 m.from_, .int .i64 m.born, .slice ao4 m.known.length c4, .int .i64 m.view, .int .i64 m.last, .int .i64 m.op, .int .i64 m.commit, .int .i64 m.client, .int .i64 m.number, .int .i64 m.nonce, .string ⟨m.text.toArray⟩, .bool m.full, .int .i64 m.base, .string ⟨m.state.toArray⟩, .slice none 0 0] (by simp [Act.eval]) (by simp [Act.eval]) (there_new _ _ _ (by simp)) (by kernel_rfl) (by simp [Value.oneCell']) ?_
        refine hK.out _ _ ?_
        clear hK K
        (try simp only [Act.put, List.getElem_toArray, List.getElem_cons_succ, List.getElem_cons_zero])
        refine wpLate_done (by kernel_rfl) ?_ _
        dsimp only [Exit.then]
        go_step
        go_meet
        exact madeA_a F4 hown4 [.int .i64 0, .int .i64 0, .int .i64 0, .slice none 0 0, .int .i64 0, .int .i64 0, .int .i64 0, .int .i64 0, .int .i64 0, .int .i64 0, .int .i64 0, .string ⟨#[]⟩, .bool false, .int .i64 0, .string ⟨#[]⟩, .slice none 0 0] rfl
      ·
        simp only [List.getElem_toArray, List.getElem_cons_succ, List.getElem_cons_zero]
        go_simp
        refine hK.out _ _ (HK.out _ (by repeat (first | with_reducible exact Frm.refl _ _ | with_reducible exact F4 | with_reducible refine Frm.drew ?_ | with_reducible refine Frm.alloc ?_ _ | with_reducible refine Frm.setAll ?_ (fun h => by have g4 := F4.size; first | (simp at h; done) | (simp at h; omega)) _ _ | with_reducible refine Frm.setCell ?_ (fun h => by have g4 := F4.size; first | (simp at h; done) | (simp at h; omega)) _))) (fun hHeld => ?_)
        clear hK K
        (try simp only [Act.put, List.getElem_toArray, List.getElem_cons_succ, List.getElem_cons_zero, List.setIfInBounds_toArray, List.set_cons_zero, List.set_cons_succ])
        refine wpLate_ready (rs := [25]) (by kernel_rfl) (by simp) ?_
        refine (AllReadyL.cons (i := 25) rfl (fun K hK => ?_) AllReadyL.nil)
        refine step_append_own rfl (.tmp 33) (.tmp 35) 23 23 rfl W3.heap.size 3 i0 _ 1 8 Tryd.underlying23 gi gz0 gz1 gz2 rfl (.slice (some ⟨W3.heap.size, 0, none⟩) 0 0) 0 [] (by simp [Act.eval]) ((own_empty 3 (Nat.le_refl _)).alloc _) (.slice kao m.known.length kcp) m.known.length (intsV m.known) (by simp [Act.eval]) (HS.out _ (by repeat (first | with_reducible exact Frm.refl _ _ | with_reducible exact F4 | with_reducible refine Frm.drew ?_ | with_reducible refine Frm.alloc ?_ _ | with_reducible refine Frm.setAll ?_ (fun h => by have g4 := F4.size; first | (simp at h; done) | (simp at h; omega)) _ _ | with_reducible refine Frm.setCell ?_ (fun h => by have g4 := F4.size; first | (simp at h; done) | (simp at h; omega)) _))) (by unfold maxLen; omega) (by omega) (by first | (simp; done) | (simp; omega)) ?_; intro v4 w4 hown4 hf4 hv4; rw [Nat.zero_add, List.nil_append] at hown4; obtain ⟨F4, kC4, zC4, hV4⟩ := own_b hf4 hv4; obtain ⟨ao4, c4, hsh4⟩ := ownsRow_shape hown4; subst hsh4
        refine hK.out _ _ (HK.out _ (by repeat (first | with_reducible exact Frm.refl _ _ | with_reducible exact F4 | with_reducible refine Frm.drew ?_ | with_reducible refine Frm.alloc ?_ _ | with_reducible refine Frm.setAll ?_ (fun h => by have g4 := F4.size; first | (simp at h; done) | (simp at h; omega)) _ _ | with_reducible refine Frm.setCell ?_ (fun h => by have g4 := F4.size; first | (simp at h; done) | (simp at h; omega)) _))) (fun hHeld => ?_)
        clear hK K
        (try simp only [Act.put, List.getElem_toArray, List.getElem_cons_succ, List.getElem_cons_zero, List.setIfInBounds_toArray, List.set_cons_zero, List.set_cons_succ])
        refine wpLate_take0 (i := 32) (oi := _) (v := .agg #[.int .i64 m.kind, .int .i64 m.from_, .int .i64 m.born, .slice ao4 m.known.length c4, .int .i64 m.view, .int .i64 m.last, .int .i64 m.op, .int .i64 m.commit, .int .i64 m.client, .int .i64 m.number, .int .i64 m.nonce, .string ⟨m.text.toArray⟩, .bool m.full, .int .i64 m.base, .string ⟨m.state.toArray⟩, .slice none 0 0]) rfl (by kernel_rfl) (by kernel_rfl) (by kernel_rfl) (by kernel_rfl) (fun _ _ _ h => h) (yields_build (by rfl) 31 _ rfl _ [(0, .int .i64 m.kind), (1, .int .i64 m.from_), (2, .int .i64 m.born), (4, .int .i64 m.view), (5, .int .i64 m.last), (6, .int .i64 m.op), (7, .int .i64 m.commit), (8, .int .i64 m.client), (9, .int .i64 m.number), (10, .int .i64 m.nonce), (13, .int .i64 m.base), (3, .slice ao4 m.known.length c4), (11, .string ⟨m.text.toArray⟩), (12, .bool m.full), (14, .string ⟨m.state.toArray⟩)] (by simp [Act.eval]) (built_a _ _ _ _ _ _ _ _ _ _ _ _ _ _ _ _ _)) (fun _ => by assumption) ?_
        (try simp only [Act.put, List.getElem_toArray, List.getElem_cons_succ, List.getElem_cons_zero, List.setIfInBounds_toArray, List.set_cons_zero, List.set_cons_succ])
        refine wpLate_ready (rs := [34]) (by kernel_rfl) (by simp) ?_
        refine (AllReadyL.late (i := 34) rfl (by kernel_rfl) (fun K hK => ?_) AllReadyL.nil)
        refine step_store_mid rfl 31 (.tmp 5) (.tmp 43) rfl (W3.heap.size + 1) 0 #[.int .i64 m.kind, .int .i64 m.from_, .int .i64 m.born, .slice ao4 m.known.length c4, .int .i64 m.view, .int .i64 m.last, .int .i64 m.op, .int .i64 m.commit, .int .i64 m.client, .int .i64 m.number, .int .i64 m.nonce, .string ⟨m.text.toArray⟩, .bool m.full, .int .i64 m.base, .string ⟨m.state.toArray⟩, .slice none 0 0] (by simp [Act.eval]) (by simp [Act.eval]) (there_of kC4 zC4 (by simp)) (by kernel_rfl) (by simp [Value.oneCell']) ?_
        refine hK.out _ _ ?_
        clear hK K
        (try simp only [Act.put, List.getElem_toArray, List.getElem_cons_succ, List.getElem_cons_zero])
        refine wpLate_done (by kernel_rfl) ?_ _
        dsimp only [Exit.then]
        go_step
        go_meet
        exact madeA_b F4 hown4 (by omega) hV4 (by rfl) kC4 zC4
    ·
      simp only [List.getElem_toArray, List.getElem_cons_succ, List.getElem_cons_zero]
      go_simp
      refine hK.out _ _ (HK.out _ (by repeat (first | with_reducible exact Frm.refl _ _ | with_reducible exact F4 | with_reducible refine Frm.drew ?_ | with_reducible refine Frm.alloc ?_ _ | with_reducible refine Frm.setAll ?_ (fun h => by have g4 := F4.size; first | (simp at h; done) | (simp at h; omega)) _ _ | with_reducible refine Frm.setCell ?_ (fun h => by have g4 := F4.size; first | (simp at h; done) | (simp at h; omega)) _))) (fun hHeld => ?_)
      clear hK K
      (try simp only [Act.put, List.getElem_toArray, List.getElem_cons_succ, List.getElem_cons_zero, List.setIfInBounds_toArray, List.set_cons_zero, List.set_cons_succ])
      refine wpLate_ready (rs := [22]) (by kernel_rfl) (by simp) ?_
      refine (AllReadyL.cons (i := 22) rfl (fun K hK => ?_) AllReadyL.nil)
      simp only [List.getElem_toArray, List.getElem_cons_succ, List.getElem_cons_zero]
      go_simp
      refine hK.out _ _ (HK.out _ (by repeat (first | with_reducible exact Frm.refl _ _ | with_reducible exact F4 | with_reducible refine Frm.drew ?_ | with_reducible refine Frm.alloc ?_ _ | with_reducible refine Frm.setAll ?_ (fun h => by have g4 := F4.size; first | (simp at h; done) | (simp at h; omega)) _ _ | with_reducible refine Frm.setCell ?_ (fun h => by have g4 := F4.size; first | (simp at h; done) | (simp at h; omega)) _))) (fun hHeld => ?_)
      clear hK K
      (try simp only [Act.put, List.getElem_toArray, List.getElem_cons_succ, List.getElem_cons_zero, List.setIfInBounds_toArray, List.set_cons_zero, List.set_cons_succ])
      refine wpLate_ready (rs := [25]) (by kernel_rfl) (by simp) ?_
      refine (AllReadyL.cons (i := 25) rfl (fun K hK => ?_) AllReadyL.nil)
      refine step_append_own rfl (.tmp 33) (.tmp 35) 23 23 rfl W3.heap.size 3 i0 _ 1 8 Tryd.underlying23 gi gz0 gz1 gz2 rfl (.slice (some ⟨W3.heap.size + 1, 0, none⟩) 0 0) 0 [] (by simp [Act.eval]) (own_empty_c 3 (Nat.le_refl _)) (.slice kao m.known.length kcp) m.known.length (intsV m.known) (by simp [Act.eval]) (HS.out _ (by repeat (first | with_reducible exact Frm.refl _ _ | with_reducible exact F4 | with_reducible refine Frm.drew ?_ | with_reducible refine Frm.alloc ?_ _ | with_reducible refine Frm.setAll ?_ (fun h => by have g4 := F4.size; first | (simp at h; done) | (simp at h; omega)) _ _ | with_reducible refine Frm.setCell ?_ (fun h => by have g4 := F4.size; first | (simp at h; done) | (simp at h; omega)) _))) (by unfold maxLen; omega) (by omega) (by first | (simp; done) | (simp; omega)) ?_; intro v4 w4 hown4 hf4 hv4; rw [Nat.zero_add, List.nil_append] at hown4; obtain ⟨F4, kC4, zC4, hV4⟩ := own_c hf4 hv4; obtain ⟨ao4, c4, hsh4⟩ := ownsRow_shape hown4; subst hsh4
      refine hK.out _ _ (HK.out _ (by repeat (first | with_reducible exact Frm.refl _ _ | with_reducible exact F4 | with_reducible refine Frm.drew ?_ | with_reducible refine Frm.alloc ?_ _ | with_reducible refine Frm.setAll ?_ (fun h => by have g4 := F4.size; first | (simp at h; done) | (simp at h; omega)) _ _ | with_reducible refine Frm.setCell ?_ (fun h => by have g4 := F4.size; first | (simp at h; done) | (simp at h; omega)) _))) (fun hHeld => ?_)
      clear hK K
      (try simp only [Act.put, List.getElem_toArray, List.getElem_cons_succ, List.getElem_cons_zero, List.setIfInBounds_toArray, List.set_cons_zero, List.set_cons_succ])
      refine wpLate_take0 (i := 32) (oi := _) (v := .agg #[.int .i64 m.kind, .int .i64 m.from_, .int .i64 m.born, .slice ao4 m.known.length c4, .int .i64 m.view, .int .i64 m.last, .int .i64 m.op, .int .i64 m.commit, .int .i64 m.client, .int .i64 m.number, .int .i64 m.nonce, .string ⟨m.text.toArray⟩, .bool m.full, .int .i64 m.base, .string ⟨m.state.toArray⟩, .slice none 0 0]) rfl (by kernel_rfl) (by kernel_rfl) (by kernel_rfl) (by kernel_rfl) (fun _ _ _ h => h) (yields_build (by rfl) 31 _ rfl _ [(0, .int .i64 m.kind), (1, .int .i64 m.from_), (2, .int .i64 m.born), (4, .int .i64 m.view), (5, .int .i64 m.last), (6, .int .i64 m.op), (7, .int .i64 m.commit), (8, .int .i64 m.client), (9, .int .i64 m.number), (10, .int .i64 m.nonce), (13, .int .i64 m.base), (3, .slice ao4 m.known.length c4), (11, .string ⟨m.text.toArray⟩), (12, .bool m.full), (14, .string ⟨m.state.toArray⟩)] (by simp [Act.eval]) (built_a _ _ _ _ _ _ _ _ _ _ _ _ _ _ _ _ _)) (fun _ => by assumption) ?_
      (try simp only [Act.put, List.getElem_toArray, List.getElem_cons_succ, List.getElem_cons_zero, List.setIfInBounds_toArray, List.set_cons_zero, List.set_cons_succ])
      refine wpLate_ready (rs := [34]) (by kernel_rfl) (by simp) ?_
      refine (AllReadyL.late (i := 34) rfl (by kernel_rfl) (fun K hK => ?_) AllReadyL.nil)
      refine step_store_mid rfl 31 (.tmp 5) (.tmp 43) rfl W3.heap.size 0 #[.int .i64 m.kind, .int .i64 m.from_, .int .i64 m.born, .slice ao4 m.known.length c4, .int .i64 m.view, .int .i64 m.last, .int .i64 m.op, .int .i64 m.commit, .int .i64 m.client, .int .i64 m.number, .int .i64 m.nonce, .string ⟨m.text.toArray⟩, .bool m.full, .int .i64 m.base, .string ⟨m.state.toArray⟩, .slice none 0 0] (by simp [Act.eval]) (by simp [Act.eval]) (there_of kC4 zC4 (by simp)) (by kernel_rfl) (by simp [Value.oneCell']) ?_
      refine hK.out _ _ ?_
      clear hK K
      (try simp only [Act.put, List.getElem_toArray, List.getElem_cons_succ, List.getElem_cons_zero])
      refine wpLate_done (by kernel_rfl) ?_ _
      dsimp only [Exit.then]
      go_step
      go_meet
      exact madeA_b F4 hown4 (by omega) hV4 (by rfl) kC4 zC4
  case rest =>
    obtain ⟨A, kAo, kAc, rfl, bA, hkA, hkAb⟩ := hcut
    clear HK HS
    generalize wc = W4 at *
    have hAz := bA.lC
    have hA3 := bA.hC
    go_upto_region 3 with fail
    go_cut [6] from 44 to 74 (fun p wq => ∃ B, p = .pointer (some ⟨B, 0, none⟩) ∧ A < B ∧ W4.heap.size ≤ B ∧ Frm No W4 wq ∧ Box W3 wq B (msL m (.slice kao m.known.length kcp) (.slice none 0 0)))
    case first =>
      as_aux_lemma =>
      have x := HX.out _ bA.frm
      have n := HN.out _ bA.frm
      clear HX HN HR1 HR2 HR
      go_wp2_with (refine wpList_built rfl 34 _ rfl #[.int .i64 m.kind, .int .i64 m.from_, .int .i64 m.born, .slice kao m.known.length kcp, .int .i64 m.view, .int .i64 m.last, .int .i64 m.op, .int .i64 m.commit, .int .i64 m.client, .int .i64 m.number, .int .i64 m.nonce, .string ⟨m.text.toArray⟩, .bool m.full, .int .i64 m.base, .string ⟨m.state.toArray⟩, .slice none 0 0] [(0, .int .i64 m.kind), (1, .int .i64 m.from_), (2, .int .i64 m.born), (4, .int .i64 m.view), (5, .int .i64 m.last), (6, .int .i64 m.op), (7, .int .i64 m.commit), (8, .int .i64 m.client), (9, .int .i64 m.number), (10, .int .i64 m.nonce), (13, .int .i64 m.base), (3, .slice kao m.known.length kcp), (11, .string ⟨m.text.toArray⟩), (12, .bool m.full), (14, .string ⟨m.state.toArray⟩)] (by simp [Act.eval]) (built_b _ _ _ _ _ _ _ _ _ _ _ _ _ _ _ _ _) ?_)
      go_meet
      exact ⟨_, rfl, by omega, Nat.le_refl _, (Frm.refl No W4).alloc _, Box.new bA.frm (msL m (.slice kao m.known.length kcp) (.slice none 0 0)) 34⟩
    case rest =>
      clear HN
      obtain ⟨B, rfl, hAB, hB4, hf4B, bB⟩ := hcut
      generalize wc = WB at *
      have hkA' := hkA.frm hf4B (fun _ _ h => h)
      have hBz := bB.lC
      have hAW : A < WB.heap.size := by omega
      have hzW := bB.frm.size
      have hkB : ∀ k, (Value.slice kAo m.known.length kAc).ownBlock = some k → k ≠ A ∧ k ≠ B ∧ k < WB.heap.size := fun k hk => by
        obtain ⟨h1, h2, h3⟩ := hkAb k hk
        exact ⟨h1, by omega, by omega⟩
      have HE0 : Hid (ES W3 WB WB A B m (.slice kAo m.known.length kAc) (.slice kao m.known.length kcp) (.slice none 0 0) (.slice none 0 0) 0) := hid ⟨bA.no hf4B, bB, World.ownsRow_nil _ _ _ _, World.ownsRow_nil _ _ _ _, fun k hk => by simp [Value.ownBlock] at hk, Frm.refl _ _⟩
      have HKA := hid (⟨hkA', hkB⟩ : _ ∧ _)
      have bkB : Hid (∀ k, (Value.slice kAo m.known.length kAc).ownBlock = some k → W3.heap.size ≤ k) := hid fun k hk => (hkAb k hk).2.1
      clear bA bB hf4B hkA hkAb hkA' hkB gi gz0 gz1 gz2
      obtain ⟨i1, hi1, hz10, hz11, hz12⟩ := info_parts info_ment'
      obtain ⟨i2, hi2, hz20, hz21, hz22⟩ := info_parts info_rent'
      go_wp2_with fail
      go_loopw [7] (fun i wr => ∃ (j : Nat) (e1 e2 : Value), j ≤ m.entries.length ∧ i = .int .i64 (j : Int) ∧ ES W3 WB wr A B m (.slice kAo m.known.length kAc) (.slice kao m.known.length kcp) e1 e2 j) (fun i _ => m.entries.length - (intOf i).toNat)
      case atStart => exact ⟨0, _, _, by omega, rfl, HE0.out⟩
      case round =>
        obtain ⟨j, e1, e2, hj, rfl, hE⟩ := hrel
        obtain ⟨ao1, c1, rfl⟩ := ownsRow_shape hE.r1
        obtain ⟨ao2, c2, rfl⟩ := ownsRow_shape hE.r2
        have x := HX.out _ hE.bA.frm
        by_cases hjl : j < m.entries.length
        · as_aux_lemma =>
          have hjz : (j : Int) < (m.entries.length : Int) := by omega
          obtain ⟨eb, eo, rfl, hec⟩ := (HR.out.er.frm (fun _ _ => rfl) (HF3.out.thenNo hE.bA.frm) (fun _ _ h => h)).at_ (by omega)
          obtain ⟨y, hyl⟩ : ∃ y, m.entries[j] = y := ⟨_, rfl⟩
          have q0 := hec j hjl 0 (by omega)
          have q1 := hec j hjl 1 (by omega)
          have q2 := hec j hjl 2 (by omega)
          rw [hyl] at q0 q1 q2
          have SK7 : Hid (∀ w', Frm No wr w' → w'.cell? ⟨b, 15, none⟩ = some (.slice (some ⟨eb, eo, none⟩) m.entries.length ecp) ∧ w'.cell? ⟨eb, eo + j * 3, none⟩ = some (.int .i64 y.client) ∧ w'.cell? ⟨eb, eo + j * 3 + 1, none⟩ = some (.int .i64 y.number) ∧ w'.cell? ⟨eb, eo + j * 3 + 2, none⟩ = some (.string ⟨y.text.toArray⟩)) := by
            refine hid fun w' hf => ⟨(HX.out w' (hE.bA.frm.thenNo hf) 15), ?_, ?_, ?_⟩
            · exact (hf.cell (World.block_lt_of_cell? wr _ q0) (fun h => h)).trans q0
            · exact (hf.cell (World.block_lt_of_cell? wr _ q1) (fun h => h)).trans q1
            · exact (hf.cell (World.block_lt_of_cell? wr _ q2) (fun h => h)).trans q2
          have HE := hid hE
          clear hE hec q0 q1 q2 HX HR HR1 HR2 HE0 HKA
          go_upto_region 7 with fail
          go_cut [8] from 82 to 100 (fun p wq => ∃ E, p = .pointer (some ⟨E, 0, none⟩) ∧ Box wr wq E (entV y))
          case first =>
            as_aux_lemma =>
            refine wp_region_late (fun w' => w'.cell? ⟨b, 15, none⟩ = some (.slice (some ⟨eb, eo, none⟩) m.entries.length ecp) ∧ w'.cell? ⟨eb, eo + j * 3, none⟩ = some (.int .i64 y.client) ∧ w'.cell? ⟨eb, eo + j * 3 + 1, none⟩ = some (.int .i64 y.number) ∧ w'.cell? ⟨eb, eo + j * 3 + 2, none⟩ = some (.string ⟨y.text.toArray⟩)) [20] (by kernel_rfl) (SK7.out _ (Frm.refl _ _).drew) (fun hHeld => ?_)
            refine wpLate_take0 (i := 0) (oi := _) (v := _) rfl (by kernel_rfl) (by kernel_rfl) (by kernel_rfl) (by kernel_rfl) (fun _ _ _ h => h) (Or.inl ⟨by rfl, by intro w _; go_simp; all_goals with_reducible rfl⟩) (fun _ => by assumption) ?_
            (try simp only [Act.put, List.getElem_toArray, List.getElem_cons_zero, List.setIfInBounds_toArray, List.set_cons_zero, List.set_cons_succ])
            refine wpLate_take [3, 4, 5, 18, 20] (i := 1) (oi := _) (v := _) rfl (by kernel_rfl) (by kernel_rfl) (by kernel_rfl) (by kernel_rfl) (by kernel_rfl) (fun _ _ _ h => h) (Or.inl ⟨by rfl, by intro w hSw; (try dsimp only at hSw); go_simp; all_goals with_reducible rfl⟩) (by assumption) ?_
            (try simp only [Act.put, List.getElem_toArray, List.getElem_cons_succ, List.getElem_cons_zero, List.setIfInBounds_toArray, List.set_cons_zero, List.set_cons_succ])
            refine wpLate_take0 (i := 2) (oi := _) (v := _) rfl (by kernel_rfl) (by kernel_rfl) (by kernel_rfl) (by kernel_rfl) (fun _ _ _ h => h) (Or.inl ⟨by rfl, by intro w _; go_simp; all_goals with_reducible rfl⟩) (fun _ => by assumption) ?_
            (try simp only [Act.put, List.getElem_toArray, List.getElem_cons_succ, List.getElem_cons_zero, List.setIfInBounds_toArray, List.set_cons_zero, List.set_cons_succ])
            refine wpLate_take0 (i := 3) (oi := _) (v := _) rfl (by kernel_rfl) (by kernel_rfl) (by kernel_rfl) (by kernel_rfl) (fun _ _ _ h => h) (Or.inl ⟨by rfl, by intro w _; go_simp; all_goals with_reducible rfl⟩) (fun _ => by assumption) ?_
            (try simp only [Act.put, List.getElem_toArray, List.getElem_cons_succ, List.getElem_cons_zero, List.setIfInBounds_toArray, List.set_cons_zero, List.set_cons_succ])
            refine wpLate_take0 (i := 4) (oi := _) (v := _) rfl (by kernel_rfl) (by kernel_rfl) (by kernel_rfl) (by kernel_rfl) (fun _ _ _ h => h) (Or.inl ⟨by rfl, by intro w _; go_simp; all_goals with_reducible rfl⟩) (fun _ => by assumption) ?_
            (try simp only [Act.put, List.getElem_toArray, List.getElem_cons_succ, List.getElem_cons_zero, List.setIfInBounds_toArray, List.set_cons_zero, List.set_cons_succ])
            refine wpLate_take [18, 20] (i := 5) (oi := _) (v := _) rfl (by kernel_rfl) (by kernel_rfl) (by kernel_rfl) (by kernel_rfl) (by kernel_rfl) (fun _ _ _ h => h) (Or.inl ⟨by rfl, by intro w hSw; (try dsimp only at hSw); go_simp; all_goals with_reducible rfl⟩) (by assumption) ?_
            (try simp only [Act.put, List.getElem_toArray, List.getElem_cons_succ, List.getElem_cons_zero, List.setIfInBounds_toArray, List.set_cons_zero, List.set_cons_succ])
            refine wpLate_take0 (i := 6) (oi := _) (v := _) rfl (by kernel_rfl) (by kernel_rfl) (by kernel_rfl) (by kernel_rfl) (fun _ _ _ h => h) (Or.inl ⟨by rfl, by intro w _; go_simp; all_goals with_reducible rfl⟩) (fun _ => by assumption) ?_
            (try simp only [Act.put, List.getElem_toArray, List.getElem_cons_succ, List.getElem_cons_zero, List.setIfInBounds_toArray, List.set_cons_zero, List.set_cons_succ])
            refine wpLate_take [9, 10, 11, 18, 20] (i := 7) (oi := _) (v := _) rfl (by kernel_rfl) (by kernel_rfl) (by kernel_rfl) (by kernel_rfl) (by kernel_rfl) (fun _ _ _ h => h) (Or.inl ⟨by rfl, by intro w hSw; (try dsimp only at hSw); go_simp; all_goals with_reducible rfl⟩) (by assumption) ?_
            (try simp only [Act.put, List.getElem_toArray, List.getElem_cons_succ, List.getElem_cons_zero, List.setIfInBounds_toArray, List.set_cons_zero, List.set_cons_succ])
            refine wpLate_take0 (i := 8) (oi := _) (v := _) rfl (by kernel_rfl) (by kernel_rfl) (by kernel_rfl) (by kernel_rfl) (fun _ _ _ h => h) (Or.inl ⟨by rfl, by intro w _; go_simp; all_goals with_reducible rfl⟩) (fun _ => by assumption) ?_
            (try simp only [Act.put, List.getElem_toArray, List.getElem_cons_succ, List.getElem_cons_zero, List.setIfInBounds_toArray, List.set_cons_zero, List.set_cons_succ])
            refine wpLate_take0 (i := 9) (oi := _) (v := _) rfl (by kernel_rfl) (by kernel_rfl) (by kernel_rfl) (by kernel_rfl) (fun _ _ _ h => h) (Or.inl ⟨by rfl, by intro w _; go_simp; all_goals with_reducible rfl⟩) (fun _ => by assumption) ?_
            (try simp only [Act.put, List.getElem_toArray, List.getElem_cons_succ, List.getElem_cons_zero, List.setIfInBounds_toArray, List.set_cons_zero, List.set_cons_succ])
            refine wpLate_take0 (i := 10) (oi := _) (v := _) rfl (by kernel_rfl) (by kernel_rfl) (by kernel_rfl) (by kernel_rfl) (fun _ _ _ h => h) (Or.inl ⟨by rfl, by intro w _; go_simp; all_goals with_reducible rfl⟩) (fun _ => by assumption) ?_
            (try simp only [Act.put, List.getElem_toArray, List.getElem_cons_succ, List.getElem_cons_zero, List.setIfInBounds_toArray, List.set_cons_zero, List.set_cons_succ])
            refine wpLate_take [18, 20] (i := 11) (oi := _) (v := _) rfl (by kernel_rfl) (by kernel_rfl) (by kernel_rfl) (by kernel_rfl) (by kernel_rfl) (fun _ _ _ h => h) (Or.inl ⟨by rfl, by intro w hSw; (try dsimp only at hSw); go_simp; all_goals with_reducible rfl⟩) (by assumption) ?_
            (try simp only [Act.put, List.getElem_toArray, List.getElem_cons_succ, List.getElem_cons_zero, List.setIfInBounds_toArray, List.set_cons_zero, List.set_cons_succ])
            refine wpLate_take0 (i := 12) (oi := _) (v := _) rfl (by kernel_rfl) (by kernel_rfl) (by kernel_rfl) (by kernel_rfl) (fun _ _ _ h => h) (Or.inl ⟨by rfl, by intro w _; go_simp; all_goals with_reducible rfl⟩) (fun _ => by assumption) ?_
            (try simp only [Act.put, List.getElem_toArray, List.getElem_cons_succ, List.getElem_cons_zero, List.setIfInBounds_toArray, List.set_cons_zero, List.set_cons_succ])
            refine wpLate_take [15, 16, 17, 18, 20] (i := 13) (oi := _) (v := _) rfl (by kernel_rfl) (by kernel_rfl) (by kernel_rfl) (by kernel_rfl) (by kernel_rfl) (fun _ _ _ h => h) (Or.inl ⟨by rfl, by intro w hSw; (try dsimp only at hSw); go_simp; all_goals with_reducible rfl⟩) (by assumption) ?_
            (try simp only [Act.put, List.getElem_toArray, List.getElem_cons_succ, List.getElem_cons_zero, List.setIfInBounds_toArray, List.set_cons_zero, List.set_cons_succ])
            refine wpLate_take0 (i := 14) (oi := _) (v := _) rfl (by kernel_rfl) (by kernel_rfl) (by kernel_rfl) (by kernel_rfl) (fun _ _ _ h => h) (Or.inl ⟨by rfl, by intro w _; go_simp; all_goals with_reducible rfl⟩) (fun _ => by assumption) ?_
            (try simp only [Act.put, List.getElem_toArray, List.getElem_cons_succ, List.getElem_cons_zero, List.setIfInBounds_toArray, List.set_cons_zero, List.set_cons_succ])
            refine wpLate_take0 (i := 15) (oi := _) (v := _) rfl (by kernel_rfl) (by kernel_rfl) (by kernel_rfl) (by kernel_rfl) (fun _ _ _ h => h) (Or.inl ⟨by rfl, by intro w _; go_simp; all_goals with_reducible rfl⟩) (fun _ => by assumption) ?_
            (try simp only [Act.put, List.getElem_toArray, List.getElem_cons_succ, List.getElem_cons_zero, List.setIfInBounds_toArray, List.set_cons_zero, List.set_cons_succ])
            refine wpLate_take0 (i := 16) (oi := _) (v := _) rfl (by kernel_rfl) (by kernel_rfl) (by kernel_rfl) (by kernel_rfl) (fun _ _ _ h => h) (Or.inl ⟨by rfl, by intro w _; go_simp; all_goals with_reducible rfl⟩) (fun _ => by assumption) ?_
            (try simp only [Act.put, List.getElem_toArray, List.getElem_cons_succ, List.getElem_cons_zero, List.setIfInBounds_toArray, List.set_cons_zero, List.set_cons_succ])
            refine wpLate_take [18, 20] (i := 17) (oi := _) (v := _) rfl (by kernel_rfl) (by kernel_rfl) (by kernel_rfl) (by kernel_rfl) (by kernel_rfl) (fun _ _ _ h => h) (Or.inl ⟨by rfl, by intro w hSw; (try dsimp only at hSw); go_simp; all_goals with_reducible rfl⟩) (by assumption) ?_
            (try simp only [Act.put, List.getElem_toArray, List.getElem_cons_succ, List.getElem_cons_zero, List.setIfInBounds_toArray, List.set_cons_zero, List.set_cons_succ])
            refine wpLate_take0 (i := 18) (oi := _) (v := .agg #[.int .i64 y.client, .int .i64 y.number, .string ⟨y.text.toArray⟩]) rfl (by kernel_rfl) (by kernel_rfl) (by kernel_rfl) (by kernel_rfl) (fun _ _ _ h => h) (yields_build (by rfl) 49 _ rfl _ [(0, .int .i64 y.client), (1, .int .i64 y.number), (2, .string ⟨y.text.toArray⟩)] (by simp [Act.eval]) (built_e _ _ _)) (fun _ => by assumption) ?_
            (try simp only [Act.put, List.getElem_toArray, List.getElem_cons_succ, List.getElem_cons_zero, List.setIfInBounds_toArray, List.set_cons_zero, List.set_cons_succ])
            refine wpLate_ready (rs := [19]) (by kernel_rfl) (by simp) ?_
            refine (AllReadyL.cons (i := 19) rfl (fun K hK => ?_) AllReadyL.nil)
            simp only [List.getElem_toArray, List.getElem_cons_succ, List.getElem_cons_zero]
            go_simp
            refine hK.out _ _ (SK7.out _ (by repeat (first | with_reducible exact Frm.refl _ _ | with_reducible refine Frm.drew ?_ | with_reducible refine Frm.alloc ?_ _))) (fun hHeld => ?_)
            clear hK K
            (try simp only [Act.put, List.getElem_toArray, List.getElem_cons_succ, List.getElem_cons_zero, List.setIfInBounds_toArray, List.set_cons_zero, List.set_cons_succ])
            refine wpLate_ready (rs := [20]) (by kernel_rfl) (by simp) ?_
            refine (AllReadyL.late (i := 20) rfl (by kernel_rfl) (fun K hK => ?_) AllReadyL.nil)
            simp only [List.getElem_toArray, List.getElem_cons_succ, List.getElem_cons_zero]
            go_simp
            refine hK.out _ _ ?_
            clear hK K
            (try simp only [Act.put, List.getElem_toArray, List.getElem_cons_succ, List.getElem_cons_zero, List.setIfInBounds_toArray, List.set_cons_zero, List.set_cons_succ])
            refine wpLate_done (by kernel_rfl) ?_ _
            dsimp only [Exit.then]
            go_step
            go_meet
            exact ⟨_, rfl, Box.new ((Frm.refl No wr).drew) (entV y) 49⟩

          case rest =>
            as_aux_lemma =>
            obtain ⟨E, rfl, bE⟩ := hcut
            have hEr1 := hid (fun k hk => (HE.out.r1.lt k hk).2)
            have hEr2 := hid (fun k hk => (HE.out.r2.lt k hk).2)
            have HE := hid (HE.out.no bE.frm)
            have hAz8 : A < wc.heap.size := HE.out.bA.lC
            have hBz8 : B < wc.heap.size := HE.out.bB.lC
            have SK8 : Hid (∀ w', Frm (Rows2 (.slice ao1 j c1) (.slice ao2 j c2)) wc w' → w'.cell? ⟨A, 15, none⟩ = some (.slice ao1 j c1) ∧ w'.cell? ⟨B, 15, none⟩ = some (.slice ao2 j c2) ∧ w'.cell? ⟨E, 0, none⟩ = some (.int .i64 y.client) ∧ w'.cell? ⟨E, 1, none⟩ = some (.int .i64 y.number) ∧ w'.cell? ⟨E, 2, none⟩ = some (.string ⟨y.text.toArray⟩)) := by
              have hEl := bE.lC
              have hEw := HE.out.fr.size
              have hnE : ¬ Rows2 (.slice ao1 j c1) (.slice ao2 j c2) E := fun s => by
                rcases s with s | s
                · have := (hEr1.out E s); have := bE.hC; omega
                · have := (hEr2.out E s); have := bE.hC; omega
              exact hid fun w' hf => ⟨(hf.cell (p := ⟨A, 15, none⟩) hAz8 (HE.out.apart hAW)).trans (HE.out.bA.cell 15), (hf.cell (p := ⟨B, 15, none⟩) hBz8 (HE.out.apart hBz)).trans (HE.out.bB.cell 15), (hf.cell (p := ⟨E, 0, none⟩) hEl hnE).trans (bE.cell 0), (hf.cell (p := ⟨E, 1, none⟩) hEl hnE).trans (bE.cell 1), (hf.cell (p := ⟨E, 2, none⟩) hEl hnE).trans (bE.cell 2)⟩
            clear SK7 x
            go_upto_region 8 with fail
            refine wp_region_late (fun w' => w'.cell? ⟨A, 15, none⟩ = some (.slice ao1 j c1) ∧ w'.cell? ⟨B, 15, none⟩ = some (.slice ao2 j c2) ∧ w'.cell? ⟨E, 0, none⟩ = some (.int .i64 y.client) ∧ w'.cell? ⟨E, 1, none⟩ = some (.int .i64 y.number) ∧ w'.cell? ⟨E, 2, none⟩ = some (.string ⟨y.text.toArray⟩)) [11, 13] (by kernel_rfl) (SK8.out _ (Frm.refl _ _).drew) (fun hHeld => ?_)
            refine wpLate_take0 (i := 0) (oi := _) (v := _) rfl (by kernel_rfl) (by kernel_rfl) (by kernel_rfl) (by kernel_rfl) (fun _ _ _ h => h) (Or.inl ⟨by rfl, by intro w _; go_simp; all_goals with_reducible rfl⟩) (fun _ => by assumption) ?_
            (try simp only [Act.put, List.getElem_toArray, List.getElem_cons_zero, List.setIfInBounds_toArray, List.set_cons_zero, List.set_cons_succ])
            refine wpLate_take [4, 9, 11, 13] (i := 1) (oi := _) (v := _) rfl (by kernel_rfl) (by kernel_rfl) (by kernel_rfl) (by kernel_rfl) (by kernel_rfl) (fun _ _ _ h => h) (Or.inl ⟨by rfl, by intro w hSw; (try dsimp only at hSw); go_simp; all_goals with_reducible rfl⟩) (by assumption) ?_
            (try simp only [Act.put, List.getElem_toArray, List.getElem_cons_succ, List.getElem_cons_zero, List.setIfInBounds_toArray, List.set_cons_zero, List.set_cons_succ])
            refine wpLate_take [3, 4, 9, 11, 13] (i := 2) (oi := _) (v := _) rfl (by kernel_rfl) (by kernel_rfl) (by kernel_rfl) (by kernel_rfl) (by kernel_rfl) (fun _ _ _ h => h) (Or.inl ⟨by rfl, by intro w hSw; (try dsimp only at hSw); go_simp; all_goals with_reducible rfl⟩) (by assumption) ?_
            (try simp only [Act.put, List.getElem_toArray, List.getElem_cons_succ, List.getElem_cons_zero, List.setIfInBounds_toArray, List.set_cons_zero, List.set_cons_succ])
            refine wpLate_take0 (i := 5) (oi := _) (v := _) rfl (by kernel_rfl) (by kernel_rfl) (by kernel_rfl) (by kernel_rfl) (fun _ _ _ h => h) (Or.inl ⟨by rfl, by intro w _; go_simp; all_goals with_reducible rfl⟩) (fun _ => by assumption) ?_
            (try simp only [Act.put, List.getElem_toArray, List.getElem_cons_succ, List.getElem_cons_zero, List.setIfInBounds_toArray, List.set_cons_zero, List.set_cons_succ])
            refine wpLate_take [9, 11, 13] (i := 6) (oi := _) (v := _) rfl (by kernel_rfl) (by kernel_rfl) (by kernel_rfl) (by kernel_rfl) (by kernel_rfl) (fun _ _ _ h => h) (Or.inl ⟨by rfl, by intro w hSw; (try dsimp only at hSw); go_simp; all_goals with_reducible rfl⟩) (by assumption) ?_
            (try simp only [Act.put, List.getElem_toArray, List.getElem_cons_succ, List.getElem_cons_zero, List.setIfInBounds_toArray, List.set_cons_zero, List.set_cons_succ])
            refine wpLate_take [8, 9, 11, 13] (i := 7) (oi := _) (v := _) rfl (by kernel_rfl) (by kernel_rfl) (by kernel_rfl) (by kernel_rfl) (by kernel_rfl) (fun _ _ _ h => h) (Or.inl ⟨by rfl, by intro w hSw; (try dsimp only at hSw); go_simp; all_goals with_reducible rfl⟩) (by assumption) ?_
            (try simp only [Act.put, List.getElem_toArray, List.getElem_cons_succ, List.getElem_cons_zero, List.setIfInBounds_toArray, List.set_cons_zero, List.set_cons_succ])
            refine wpLate_ready (rs := [3, 8]) (by kernel_rfl) (by simp) ?_
            refine (AllReadyL.cons (i := 3) rfl (fun K hK => ?_) (AllReadyL.cons (i := 8) rfl (fun K hK => ?_) AllReadyL.nil))
            ·
              simp only [List.getElem_toArray, List.getElem_cons_succ, List.getElem_cons_zero]
              go_simp
              refine hK.out _ _ (SK8.out _ (by repeat (first | with_reducible exact Frm.refl _ _ | with_reducible exact G4 | with_reducible exact G5 | with_reducible refine Frm.drew ?_ | with_reducible refine Frm.alloc ?_ _))) (fun hHeld => ?_)
              clear hK K
              (try simp only [Act.put, List.getElem_toArray, List.getElem_cons_succ, List.getElem_cons_zero, List.setIfInBounds_toArray, List.set_cons_zero, List.set_cons_succ])
              refine wpLate_ready (rs := [4, 8]) (by kernel_rfl) (by simp) ?_
              refine (AllReadyL.cons (i := 4) rfl (fun K hK => ?_) (AllReadyL.cons (i := 8) rfl (fun K hK => ?_) AllReadyL.nil))
              ·
                have FX : Frm No wc (wc.alloc (.cells #[.int .i64 y.client, .int .i64 y.number, .string ⟨y.text.toArray⟩] 50)).drew := ((Frm.refl No wc).alloc _).drew
                refine step_append_own rfl (.tmp 102) (.tmp 104) 29 29 rfl WB.heap.size 50 i1 _ 3 32 Tryd.underlying29 hi1 hz10 hz11 hz12 rfl (.slice ao1 j c1) j _ (by simp [Act.eval]) (Frm.row FX HE.out.r1 (fun _ _ h => h)) (.slice (some ⟨wc.heap.size, 0, none⟩) 1 1) 1 (entV y) (by simp [Act.eval]) (src_ent Tryd.underlying29 (fun q => ((Box.new (Frm.refl No wc) (entV y) 50).no ((Frm.refl No _).drew)).cell q)) (by unfold maxLen; omega) (by omega) (by have := HE.out.fr.size; have := (FX).size; omega) ?_; intro v4 w4 hown4 hf4 hv4; obtain ⟨ao4, c4, rfl⟩ := ownsRow_shape hown4; have G4 : Frm (Rows2 (.slice ao1 j c1) (.slice ao2 j c2)) wc w4 := (FX).any.then_ (hf4.weak (fun _ _ h => Or.inl h))
                refine hK.out _ _ (SK8.out _ G4) (fun hHeld => ?_)
                clear hK K
                (try simp only [Act.put, List.getElem_toArray, List.getElem_cons_succ, List.getElem_cons_zero, List.setIfInBounds_toArray, List.set_cons_zero, List.set_cons_succ])
                refine wpLate_take0 (i := 10) (oi := _) (v := _) rfl (by kernel_rfl) (by kernel_rfl) (by kernel_rfl) (by kernel_rfl) (fun _ _ _ h => h) (Or.inl ⟨by rfl, by intro w _; go_simp; all_goals with_reducible rfl⟩) (fun _ => by assumption) ?_
                (try simp only [Act.put, List.getElem_toArray, List.getElem_cons_succ, List.getElem_cons_zero, List.setIfInBounds_toArray, List.set_cons_zero, List.set_cons_succ])
                refine wpLate_ready (rs := [8]) (by kernel_rfl) (by simp) ?_
                refine (AllReadyL.cons (i := 8) rfl (fun K hK => ?_) AllReadyL.nil)
                simp only [List.getElem_toArray, List.getElem_cons_succ, List.getElem_cons_zero]
                go_simp
                refine hK.out _ _ (SK8.out _ (by repeat (first | with_reducible exact Frm.refl _ _ | with_reducible exact G4 | with_reducible exact G5 | with_reducible refine Frm.drew ?_ | with_reducible refine Frm.alloc ?_ _))) (fun hHeld => ?_)
                clear hK K
                (try simp only [Act.put, List.getElem_toArray, List.getElem_cons_succ, List.getElem_cons_zero, List.setIfInBounds_toArray, List.set_cons_zero, List.set_cons_succ])
                have FY : Frm No w4 (w4.alloc (.cells #[.int .i64 y.client, .int .i64 y.number, .string ⟨y.text.toArray⟩] 49)) := (Frm.refl No w4).alloc _
                refine wpLate_ready (rs := [9]) (by kernel_rfl) (by simp) ?_
                refine (AllReadyL.cons (i := 9) rfl (fun K hK => ?_) AllReadyL.nil)
                refine step_append_own rfl (.tmp 107) (.tmp 109) 32 32 rfl WB.heap.size 49 i2 _ 3 32 Tryd.underlying32 hi2 hz20 hz21 hz22 rfl (.slice ao2 j c2) j _ (by simp [Act.eval]) (Frm.row FY (hf4.row (Frm.row FX HE.out.r2 (fun _ _ h => h)) (fun k hk e => HE.out.ne k e hk)) (fun _ _ h => h)) (.slice (some ⟨w4.heap.size, 0, none⟩) 1 1) 1 (entV y) (by simp [Act.eval]) (src_ent Tryd.underlying32 (fun q => (Box.new (Frm.refl No w4) (entV y) 49).cell q)) (by unfold maxLen; omega) (by omega) (by have := HE.out.fr.size; have := G4.size; have := (FY).size; omega) ?_; intro v5 w5 hown5 hf5 hv5; obtain ⟨ao5, c5, rfl⟩ := ownsRow_shape hown5; have G5 : Frm (Rows2 (.slice ao1 j c1) (.slice ao2 j c2)) wc w5 := (G4.thenNo FY).then_ (hf5.weak (fun _ _ h => Or.inr h))
                refine hK.out _ _ (SK8.out _ G5) (fun hHeld => ?_)
                clear hK K
                (try simp only [Act.put, List.getElem_toArray, List.getElem_cons_succ, List.getElem_cons_zero, List.setIfInBounds_toArray, List.set_cons_zero, List.set_cons_succ])
                have kA : w5.cell? ⟨A, 15, none⟩ = some (.slice ao1 j c1) := (SK8.out _ G5).1
                have kB : w5.cell? ⟨B, 15, none⟩ = some (.slice ao2 j c2) := (SK8.out _ G5).2.1
                have zA : w5.frozen? ⟨A, 15, none⟩ = false := (G5.frozen (p := ⟨A, 15, none⟩) hAz8 (HE.out.apart hAW)).trans (HE.out.bA.fr 15)
                have zB : w5.frozen? ⟨B, 15, none⟩ = false := (G5.frozen (p := ⟨B, 15, none⟩) hBz8 (HE.out.apart hBz)).trans (HE.out.bB.fr 15)
                have kB' : (w5.setCell ⟨A, 15, none⟩ (.slice ao4 (j + 1) c4)).cell? ⟨B, 15, none⟩ = some (.slice ao2 j c2) := ((setCell_own _).cell (p := ⟨B, 15, none⟩) (Nat.lt_of_lt_of_le hBz8 G5.size) (fun e => by have e : B = A := e; omega)).trans kB
                refine wpLate_ready (rs := [11]) (by kernel_rfl) (by simp) ?_
                refine (AllReadyL.late (i := 11) rfl (by kernel_rfl) (fun K hK => ?_) AllReadyL.nil)
                simp only [List.getElem_toArray, List.getElem_cons_succ, List.getElem_cons_zero]
                go_simp
                refine hK.out _ _ ?_
                clear hK K
                (try simp only [Act.put, List.getElem_toArray, List.getElem_cons_succ, List.getElem_cons_zero, List.setIfInBounds_toArray, List.set_cons_zero, List.set_cons_succ])
                refine wpLate_take0 (i := 12) (oi := _) (v := _) rfl (by kernel_rfl) (by kernel_rfl) (by kernel_rfl) (by kernel_rfl) (fun _ _ _ h => h) (Or.inl ⟨by rfl, by intro w _; go_simp; all_goals with_reducible rfl⟩) (fun h => by cases (show false = true from h)) ?_
                (try simp only [Act.put, List.getElem_toArray, List.getElem_cons_succ, List.getElem_cons_zero, List.setIfInBounds_toArray, List.set_cons_zero, List.set_cons_succ])
                refine wpLate_ready (rs := [13]) (by kernel_rfl) (by simp) ?_
                refine (AllReadyL.late (i := 13) rfl (by kernel_rfl) (fun K hK => ?_) AllReadyL.nil)
                simp only [List.getElem_toArray, List.getElem_cons_succ, List.getElem_cons_zero]
                go_simp
                refine hK.out _ _ ?_
                clear hK K
                (try simp only [Act.put, List.getElem_toArray, List.getElem_cons_succ, List.getElem_cons_zero, List.setIfInBounds_toArray, List.set_cons_zero, List.set_cons_succ])
                refine wpLate_done (by kernel_rfl) ?_ _
                go_wp2_with fail
                exact ⟨⟨j + 1, _, _, by omega, by go_num, HE.out.step hAW hBz (by omega) hA3 (by omega) hjl FX (by rw [hyl]; exact hown4) hf4 hv4 FY (by rw [hyl]; exact hown5) hf5 hv5⟩, by simp only [intOf]; omega⟩
              ·
                simp only [List.getElem_toArray, List.getElem_cons_succ, List.getElem_cons_zero]
                go_simp
                refine hK.out _ _ (SK8.out _ (by repeat (first | with_reducible exact Frm.refl _ _ | with_reducible exact G4 | with_reducible exact G5 | with_reducible refine Frm.drew ?_ | with_reducible refine Frm.alloc ?_ _))) (fun hHeld => ?_)
                clear hK K
                (try simp only [Act.put, List.getElem_toArray, List.getElem_cons_succ, List.getElem_cons_zero, List.setIfInBounds_toArray, List.set_cons_zero, List.set_cons_succ])
                have FX : Frm No wc ((wc.alloc (.cells #[.int .i64 y.client, .int .i64 y.number, .string ⟨y.text.toArray⟩] 50)).alloc (.cells #[.int .i64 y.client, .int .i64 y.number, .string ⟨y.text.toArray⟩] 49)).drew := (((Frm.refl No wc).alloc _).alloc _).drew
                refine wpLate_ready (rs := [4]) (by kernel_rfl) (by simp) ?_
                refine (AllReadyL.cons (i := 4) rfl (fun K hK => ?_) AllReadyL.nil)
                refine step_append_own rfl (.tmp 102) (.tmp 104) 29 29 rfl WB.heap.size 50 i1 _ 3 32 Tryd.underlying29 hi1 hz10 hz11 hz12 rfl (.slice ao1 j c1) j _ (by simp [Act.eval]) (Frm.row FX HE.out.r1 (fun _ _ h => h)) (.slice (some ⟨wc.heap.size, 0, none⟩) 1 1) 1 (entV y) (by simp [Act.eval]) (src_ent Tryd.underlying29 (fun q => (((Box.new (Frm.refl No wc) (entV y) 50).no ((Frm.refl No _).alloc (.cells #[.int .i64 y.client, .int .i64 y.number, .string ⟨y.text.toArray⟩] 49))).no ((Frm.refl No _).drew)).cell q)) (by unfold maxLen; omega) (by omega) (by have := HE.out.fr.size; have := (FX).size; omega) ?_; intro v4 w4 hown4 hf4 hv4; obtain ⟨ao4, c4, rfl⟩ := ownsRow_shape hown4; have G4 : Frm (Rows2 (.slice ao1 j c1) (.slice ao2 j c2)) wc w4 := (FX).any.then_ (hf4.weak (fun _ _ h => Or.inl h))
                refine hK.out _ _ (SK8.out _ G4) (fun hHeld => ?_)
                clear hK K
                (try simp only [Act.put, List.getElem_toArray, List.getElem_cons_succ, List.getElem_cons_zero, List.setIfInBounds_toArray, List.set_cons_zero, List.set_cons_succ])
                refine wpLate_take0 (i := 10) (oi := _) (v := _) rfl (by kernel_rfl) (by kernel_rfl) (by kernel_rfl) (by kernel_rfl) (fun _ _ _ h => h) (Or.inl ⟨by rfl, by intro w _; go_simp; all_goals with_reducible rfl⟩) (fun _ => by assumption) ?_
                (try simp only [Act.put, List.getElem_toArray, List.getElem_cons_succ, List.getElem_cons_zero, List.setIfInBounds_toArray, List.set_cons_zero, List.set_cons_succ])
                have FY : Frm No w4 w4 := Frm.refl No w4
                refine wpLate_ready (rs := [9]) (by kernel_rfl) (by simp) ?_
                refine (AllReadyL.cons (i := 9) rfl (fun K hK => ?_) AllReadyL.nil)
                refine step_append_own rfl (.tmp 107) (.tmp 109) 32 32 rfl WB.heap.size 49 i2 _ 3 32 Tryd.underlying32 hi2 hz20 hz21 hz22 rfl (.slice ao2 j c2) j _ (by simp [Act.eval]) (Frm.row FY (hf4.row (Frm.row FX HE.out.r2 (fun _ _ h => h)) (fun k hk e => HE.out.ne k e hk)) (fun _ _ h => h)) (.slice (some ⟨wc.heap.size + 1, 0, none⟩) 1 1) 1 (entV y) (by simp [Act.eval]) (src_new2 Tryd.underlying32 hf4 (fun q => new_two wc (.cells #[.int .i64 y.client, .int .i64 y.number, .string ⟨y.text.toArray⟩] 50) (entV y) 49 q) (by simp) (fun e => by have := (HE.out.r1.lt _ e).2; omega)) (by unfold maxLen; omega) (by omega) (by have := HE.out.fr.size; have := G4.size; have := (FY).size; omega) ?_; intro v5 w5 hown5 hf5 hv5; obtain ⟨ao5, c5, rfl⟩ := ownsRow_shape hown5; have G5 : Frm (Rows2 (.slice ao1 j c1) (.slice ao2 j c2)) wc w5 := (G4.thenNo FY).then_ (hf5.weak (fun _ _ h => Or.inr h))
                refine hK.out _ _ (SK8.out _ G5) (fun hHeld => ?_)
                clear hK K
                (try simp only [Act.put, List.getElem_toArray, List.getElem_cons_succ, List.getElem_cons_zero, List.setIfInBounds_toArray, List.set_cons_zero, List.set_cons_succ])
                have kA : w5.cell? ⟨A, 15, none⟩ = some (.slice ao1 j c1) := (SK8.out _ G5).1
                have kB : w5.cell? ⟨B, 15, none⟩ = some (.slice ao2 j c2) := (SK8.out _ G5).2.1
                have zA : w5.frozen? ⟨A, 15, none⟩ = false := (G5.frozen (p := ⟨A, 15, none⟩) hAz8 (HE.out.apart hAW)).trans (HE.out.bA.fr 15)
                have zB : w5.frozen? ⟨B, 15, none⟩ = false := (G5.frozen (p := ⟨B, 15, none⟩) hBz8 (HE.out.apart hBz)).trans (HE.out.bB.fr 15)
                have kB' : (w5.setCell ⟨A, 15, none⟩ (.slice ao4 (j + 1) c4)).cell? ⟨B, 15, none⟩ = some (.slice ao2 j c2) := ((setCell_own _).cell (p := ⟨B, 15, none⟩) (Nat.lt_of_lt_of_le hBz8 G5.size) (fun e => by have e : B = A := e; omega)).trans kB
                refine wpLate_ready (rs := [11]) (by kernel_rfl) (by simp) ?_
                refine (AllReadyL.late (i := 11) rfl (by kernel_rfl) (fun K hK => ?_) AllReadyL.nil)
                simp only [List.getElem_toArray, List.getElem_cons_succ, List.getElem_cons_zero]
                go_simp
                refine hK.out _ _ ?_
                clear hK K
                (try simp only [Act.put, List.getElem_toArray, List.getElem_cons_succ, List.getElem_cons_zero, List.setIfInBounds_toArray, List.set_cons_zero, List.set_cons_succ])
                refine wpLate_take0 (i := 12) (oi := _) (v := _) rfl (by kernel_rfl) (by kernel_rfl) (by kernel_rfl) (by kernel_rfl) (fun _ _ _ h => h) (Or.inl ⟨by rfl, by intro w _; go_simp; all_goals with_reducible rfl⟩) (fun h => by cases (show false = true from h)) ?_
                (try simp only [Act.put, List.getElem_toArray, List.getElem_cons_succ, List.getElem_cons_zero, List.setIfInBounds_toArray, List.set_cons_zero, List.set_cons_succ])
                refine wpLate_ready (rs := [13]) (by kernel_rfl) (by simp) ?_
                refine (AllReadyL.late (i := 13) rfl (by kernel_rfl) (fun K hK => ?_) AllReadyL.nil)
                simp only [List.getElem_toArray, List.getElem_cons_succ, List.getElem_cons_zero]
                go_simp
                refine hK.out _ _ ?_
                clear hK K
                (try simp only [Act.put, List.getElem_toArray, List.getElem_cons_succ, List.getElem_cons_zero, List.setIfInBounds_toArray, List.set_cons_zero, List.set_cons_succ])
                refine wpLate_done (by kernel_rfl) ?_ _
                go_wp2_with fail
                exact ⟨⟨j + 1, _, _, by omega, by go_num, HE.out.step hAW hBz (by omega) hA3 (by omega) hjl FX (by rw [hyl]; exact hown4) hf4 hv4 FY (by rw [hyl]; exact hown5) hf5 hv5⟩, by simp only [intOf]; omega⟩
            ·
              simp only [List.getElem_toArray, List.getElem_cons_succ, List.getElem_cons_zero]
              go_simp
              refine hK.out _ _ (SK8.out _ (by repeat (first | with_reducible exact Frm.refl _ _ | with_reducible exact G4 | with_reducible exact G5 | with_reducible refine Frm.drew ?_ | with_reducible refine Frm.alloc ?_ _))) (fun hHeld => ?_)
              clear hK K
              (try simp only [Act.put, List.getElem_toArray, List.getElem_cons_succ, List.getElem_cons_zero, List.setIfInBounds_toArray, List.set_cons_zero, List.set_cons_succ])
              refine wpLate_ready (rs := [3]) (by kernel_rfl) (by simp) ?_
              refine (AllReadyL.cons (i := 3) rfl (fun K hK => ?_) AllReadyL.nil)
              simp only [List.getElem_toArray, List.getElem_cons_succ, List.getElem_cons_zero]
              go_simp
              refine hK.out _ _ (SK8.out _ (by repeat (first | with_reducible exact Frm.refl _ _ | with_reducible exact G4 | with_reducible exact G5 | with_reducible refine Frm.drew ?_ | with_reducible refine Frm.alloc ?_ _))) (fun hHeld => ?_)
              clear hK K
              (try simp only [Act.put, List.getElem_toArray, List.getElem_cons_succ, List.getElem_cons_zero, List.setIfInBounds_toArray, List.set_cons_zero, List.set_cons_succ])
              have FX : Frm No wc ((wc.alloc (.cells #[.int .i64 y.client, .int .i64 y.number, .string ⟨y.text.toArray⟩] 49)).alloc (.cells #[.int .i64 y.client, .int .i64 y.number, .string ⟨y.text.toArray⟩] 50)).drew := (((Frm.refl No wc).alloc _).alloc _).drew
              refine wpLate_ready (rs := [4]) (by kernel_rfl) (by simp) ?_
              refine (AllReadyL.cons (i := 4) rfl (fun K hK => ?_) AllReadyL.nil)
              refine step_append_own rfl (.tmp 102) (.tmp 104) 29 29 rfl WB.heap.size 50 i1 _ 3 32 Tryd.underlying29 hi1 hz10 hz11 hz12 rfl (.slice ao1 j c1) j _ (by simp [Act.eval]) (Frm.row FX HE.out.r1 (fun _ _ h => h)) (.slice (some ⟨wc.heap.size + 1, 0, none⟩) 1 1) 1 (entV y) (by simp [Act.eval]) (src_ent Tryd.underlying29 (fun q => new_two wc (.cells #[.int .i64 y.client, .int .i64 y.number, .string ⟨y.text.toArray⟩] 49) (entV y) 50 q)) (by unfold maxLen; omega) (by omega) (by have := HE.out.fr.size; have := (FX).size; omega) ?_; intro v4 w4 hown4 hf4 hv4; obtain ⟨ao4, c4, rfl⟩ := ownsRow_shape hown4; have G4 : Frm (Rows2 (.slice ao1 j c1) (.slice ao2 j c2)) wc w4 := (FX).any.then_ (hf4.weak (fun _ _ h => Or.inl h))
              refine hK.out _ _ (SK8.out _ G4) (fun hHeld => ?_)
              clear hK K
              (try simp only [Act.put, List.getElem_toArray, List.getElem_cons_succ, List.getElem_cons_zero, List.setIfInBounds_toArray, List.set_cons_zero, List.set_cons_succ])
              refine wpLate_take0 (i := 10) (oi := _) (v := _) rfl (by kernel_rfl) (by kernel_rfl) (by kernel_rfl) (by kernel_rfl) (fun _ _ _ h => h) (Or.inl ⟨by rfl, by intro w _; go_simp; all_goals with_reducible rfl⟩) (fun _ => by assumption) ?_
              (try simp only [Act.put, List.getElem_toArray, List.getElem_cons_succ, List.getElem_cons_zero, List.setIfInBounds_toArray, List.set_cons_zero, List.set_cons_succ])
              have FY : Frm No w4 w4 := Frm.refl No w4
              refine wpLate_ready (rs := [9]) (by kernel_rfl) (by simp) ?_
              refine (AllReadyL.cons (i := 9) rfl (fun K hK => ?_) AllReadyL.nil)
              refine step_append_own rfl (.tmp 107) (.tmp 109) 32 32 rfl WB.heap.size 49 i2 _ 3 32 Tryd.underlying32 hi2 hz20 hz21 hz22 rfl (.slice ao2 j c2) j _ (by simp [Act.eval]) (Frm.row FY (hf4.row (Frm.row FX HE.out.r2 (fun _ _ h => h)) (fun k hk e => HE.out.ne k e hk)) (fun _ _ h => h)) (.slice (some ⟨wc.heap.size, 0, none⟩) 1 1) 1 (entV y) (by simp [Act.eval]) (src_new2 Tryd.underlying32 hf4 (fun q => new_one wc (.cells #[.int .i64 y.client, .int .i64 y.number, .string ⟨y.text.toArray⟩] 50) (entV y) 49 q) (by simp; omega) (fun e => by have := (HE.out.r1.lt _ e).2; omega)) (by unfold maxLen; omega) (by omega) (by have := HE.out.fr.size; have := G4.size; have := (FY).size; omega) ?_; intro v5 w5 hown5 hf5 hv5; obtain ⟨ao5, c5, rfl⟩ := ownsRow_shape hown5; have G5 : Frm (Rows2 (.slice ao1 j c1) (.slice ao2 j c2)) wc w5 := (G4.thenNo FY).then_ (hf5.weak (fun _ _ h => Or.inr h))
              refine hK.out _ _ (SK8.out _ G5) (fun hHeld => ?_)
              clear hK K
              (try simp only [Act.put, List.getElem_toArray, List.getElem_cons_succ, List.getElem_cons_zero, List.setIfInBounds_toArray, List.set_cons_zero, List.set_cons_succ])
              have kA : w5.cell? ⟨A, 15, none⟩ = some (.slice ao1 j c1) := (SK8.out _ G5).1
              have kB : w5.cell? ⟨B, 15, none⟩ = some (.slice ao2 j c2) := (SK8.out _ G5).2.1
              have zA : w5.frozen? ⟨A, 15, none⟩ = false := (G5.frozen (p := ⟨A, 15, none⟩) hAz8 (HE.out.apart hAW)).trans (HE.out.bA.fr 15)
              have zB : w5.frozen? ⟨B, 15, none⟩ = false := (G5.frozen (p := ⟨B, 15, none⟩) hBz8 (HE.out.apart hBz)).trans (HE.out.bB.fr 15)
              have kB' : (w5.setCell ⟨A, 15, none⟩ (.slice ao4 (j + 1) c4)).cell? ⟨B, 15, none⟩ = some (.slice ao2 j c2) := ((setCell_own _).cell (p := ⟨B, 15, none⟩) (Nat.lt_of_lt_of_le hBz8 G5.size) (fun e => by have e : B = A := e; omega)).trans kB
              refine wpLate_ready (rs := [11]) (by kernel_rfl) (by simp) ?_
              refine (AllReadyL.late (i := 11) rfl (by kernel_rfl) (fun K hK => ?_) AllReadyL.nil)
              simp only [List.getElem_toArray, List.getElem_cons_succ, List.getElem_cons_zero]
              go_simp
              refine hK.out _ _ ?_
              clear hK K
              (try simp only [Act.put, List.getElem_toArray, List.getElem_cons_succ, List.getElem_cons_zero, List.setIfInBounds_toArray, List.set_cons_zero, List.set_cons_succ])
              refine wpLate_take0 (i := 12) (oi := _) (v := _) rfl (by kernel_rfl) (by kernel_rfl) (by kernel_rfl) (by kernel_rfl) (fun _ _ _ h => h) (Or.inl ⟨by rfl, by intro w _; go_simp; all_goals with_reducible rfl⟩) (fun h => by cases (show false = true from h)) ?_
              (try simp only [Act.put, List.getElem_toArray, List.getElem_cons_succ, List.getElem_cons_zero, List.setIfInBounds_toArray, List.set_cons_zero, List.set_cons_succ])
              refine wpLate_ready (rs := [13]) (by kernel_rfl) (by simp) ?_
              refine (AllReadyL.late (i := 13) rfl (by kernel_rfl) (fun K hK => ?_) AllReadyL.nil)
              simp only [List.getElem_toArray, List.getElem_cons_succ, List.getElem_cons_zero]
              go_simp
              refine hK.out _ _ ?_
              clear hK K
              (try simp only [Act.put, List.getElem_toArray, List.getElem_cons_succ, List.getElem_cons_zero, List.setIfInBounds_toArray, List.set_cons_zero, List.set_cons_succ])
              refine wpLate_done (by kernel_rfl) ?_ _
              go_wp2_with fail
              exact ⟨⟨j + 1, _, _, by omega, by go_num, HE.out.step hAW hBz (by omega) hA3 (by omega) hjl FX (by rw [hyl]; exact hown4) hf4 hv4 FY (by rw [hyl]; exact hown5) hf5 hv5⟩, by simp only [intOf]; omega⟩

        · obtain rfl : j = m.entries.length := by omega
          as_aux_lemma =>
          have hjz : ¬ (m.entries.length : Int) < (m.entries.length : Int) := by omega
          have hr13 : r1 < W3.heap.size := by omega
          have hr23 : r2 < W3.heap.size := by omega
          have SK9 : Hid (∀ w', Frm (Two r1 r2) wr w' → w'.rangeAt A 0 (msL m (.slice kAo m.known.length kAc) (.slice ao1 m.entries.length c1)) ∧ w'.rangeAt B 0 (msL m (.slice kao m.known.length kcp) (.slice ao2 m.entries.length c2))) := by
            have nA : ¬ Two r1 r2 A := fun e => by rcases e with e | e <;> omega
            have nB : ¬ Two r1 r2 B := fun e => by rcases e with e | e <;> omega
            refine hid fun w' hf => ⟨fun q v hv => ?_, fun q v hv => ?_⟩
            · rw [Nat.zero_add, ← hv]; exact (hf.cell (p := ⟨A, q, none⟩) hE.bA.lC nA).trans (hE.bA.cell q)
            · rw [Nat.zero_add, ← hv]; exact (hf.cell (p := ⟨B, q, none⟩) hE.bB.lC nB).trans (hE.bB.cell q)
          have R1 := HR1.out.no (hE.bA.frm.thenNo (Frm.refl No wr).drew)
          have R2 := HR2.out.no (hE.bA.frm.thenNo (Frm.refl No wr).drew)
          have hr12 : r1 ≠ r2 := by omega
          have hr1w : w.heap.size ≤ r1 := by omega
          have hr2w : w.heap.size ≤ r2 := by omega
          have T1 := R1.thereA (vs := msL m (.slice kAo m.known.length kAc) (.slice ao1 m.entries.length c1)) rfl
          have R1' := R1.setAll (msL m (.slice kAo m.known.length kAc) (.slice ao1 m.entries.length c1)) rfl
          have R2' := R2.setAllOther hr1w (Ne.symm hr12) (msL m (.slice kAo m.known.length kAc) (.slice ao1 m.entries.length c1))
          have T2 := R2'.thereA (vs := msL m (.slice kao m.known.length kcp) (.slice ao2 m.entries.length c2)) rfl
          have R1c := R1'.setAllOther hr2w hr12 (msL m (.slice kao m.known.length kcp) (.slice ao2 m.entries.length c2))
          have R2c := R2'.setAll (msL m (.slice kao m.known.length kcp) (.slice ao2 m.entries.length c2)) rfl
          have G1 : Frm (Two r1 r2) wr (wr.drew.setCells r1 0 (msL m (.slice kAo m.known.length kAc) (.slice ao1 m.entries.length c1))) := ((Frm.refl _ wr).drew).setAll (fun _ => Or.inl rfl) _ _
          have G2 := G1.setAll (B := r2) (fun _ => Or.inr rfl) 0 (msL m (.slice kao m.known.length kcp) (.slice ao2 m.entries.length c2))
          have HFIN : Hid (∀ w', Frm (Two r1 r2) wr w' → MsR w' m (.slice kAo m.known.length kAc) (.slice ao1 m.entries.length c1) ∧ MsR w' m (.slice kao m.known.length kcp) (.slice ao2 m.entries.length c2) ∧ Frm No w w') := by
            obtain ⟨rkA, bkA⟩ := HKA.out
            refine hid fun w' hf => ?_
            have hN : Frm No w w' := (HF3.out.thenNo hE.bA.frm).trans hf (fun _ _ h => h) (fun i hi e => by rcases e with e | e <;> omega)
            have o1 := hE.r1
            have o2 := hE.r2
            rw [List.take_length] at o1 o2
            refine ⟨⟨?_, ?_⟩, ⟨HR.out.kr.frm hN (fun _ _ h => h), ?_⟩, hN⟩
            · refine (rkA.frm hE.fr (fun k hk e => ?_)).frm hf (fun k hk e => ?_)
              · have := bkA k hk
                rcases e with e | e <;> omega
              · have := bkB.out k hk
                rcases e with e | e <;> omega
            · refine (RdL.ofOwn o1).frm (fun _ _ => rfl) hf (fun k hk e => ?_)
              have := (o1.lt k hk).1
              rcases e with e | e <;> omega
            · refine (RdL.ofOwn o2).frm (fun _ _ => rfl) hf (fun k hk e => ?_)
              have := (o2.lt k hk).1
              rcases e with e | e <;> omega
          clear hE HX HR HR1 HR2 HE0 HKA R1 R2 R1' R2'
          obtain ⟨w1, hw1⟩ : ∃ w1, wr.drew.setCells r1 0 (msL m (.slice kAo m.known.length kAc) (.slice ao1 m.entries.length c1)) = w1 := ⟨_, rfl⟩
          rw [hw1] at T2 R1c R2c G1 G2
          obtain ⟨w2, hw2⟩ : ∃ w2, w1.setCells r2 0 (msL m (.slice kao m.known.length kcp) (.slice ao2 m.entries.length c2)) = w2 := ⟨_, rfl⟩
          rw [hw2] at R1c R2c G2
          go_upto_region 9 with fail
          refine wp_region_late (fun w' => w'.rangeAt A 0 (msL m (.slice kAo m.known.length kAc) (.slice ao1 m.entries.length c1)) ∧ w'.rangeAt B 0 (msL m (.slice kao m.known.length kcp) (.slice ao2 m.entries.length c2))) [] (by kernel_rfl) (SK9.out _ (Frm.refl _ _).drew) (fun hHeld => ?_)
          refine wpLate_take [] (i := 0) (oi := _) (v := .agg (msL m (.slice kAo m.known.length kAc) (.slice ao1 m.entries.length c1)).toArray) rfl (by kernel_rfl) (by kernel_rfl) (by kernel_rfl) (by kernel_rfl) (by kernel_rfl) (fun _ _ _ h => h) (yieldsIf_load_mid (by rfl) 31 (.tmp 5) rfl A 0 (by simp [Act.eval]) (msL m (.slice kAo m.known.length kAc) (.slice ao1 m.entries.length c1)) _ (fun w' hw => hw.1) Tryd.underlying31 (by rfl) (size_a' (msL_len' _ _ _))) (by assumption) ?_
          (try simp only [Act.put, List.getElem_toArray, List.getElem_cons_zero, List.setIfInBounds_toArray, List.set_cons_zero, List.set_cons_succ])
          refine wpLate_take [] (i := 1) (oi := _) (v := .agg (msL m (.slice kao m.known.length kcp) (.slice ao2 m.entries.length c2)).toArray) rfl (by kernel_rfl) (by kernel_rfl) (by kernel_rfl) (by kernel_rfl) (by kernel_rfl) (fun _ _ _ h => h) (yieldsIf_load_mid (by rfl) 34 (.tmp 6) rfl B 0 (by simp [Act.eval]) (msL m (.slice kao m.known.length kcp) (.slice ao2 m.entries.length c2)) _ (fun w' hw => hw.2) Tryd.underlying34 (by rfl) (size_b' (msL_len' _ _ _))) (by assumption) ?_
          (try simp only [Act.put, List.getElem_toArray, List.getElem_cons_succ, List.getElem_cons_zero, List.setIfInBounds_toArray, List.set_cons_zero, List.set_cons_succ])
          refine wpLate_ready (rs := [2]) (by kernel_rfl) (by simp) ?_
          refine (AllReadyL.cons (i := 2) rfl (fun K hK => ?_) AllReadyL.nil)
          refine step_store_mid rfl 31 (.tmp 2) (.tmp 113) rfl r1 0 (msL m (.slice kAo m.known.length kAc) (.slice ao1 m.entries.length c1)).toArray (by simp [Act.eval]) (by simp [Act.eval]) T1 (size_a (msL_len' _ _ _)) (msL_one _ _ _ _ _ _ _) ?_
          refine hK.out _ _ (by have g := SK9.out _ G1; rw [← hw1] at g; exact g) (fun hHeld => ?_)
          clear hK K
          (try simp only [Act.put, List.getElem_toArray, List.getElem_cons_succ, List.getElem_cons_zero])
          (try rw [List.toList_toArray] at hHeld ⊢)
          rw [hw1] at hHeld ⊢
          refine wpLate_ready (rs := [3]) (by kernel_rfl) (by simp) ?_
          refine (AllReadyL.cons (i := 3) rfl (fun K hK => ?_) AllReadyL.nil)
          refine step_store_mid rfl 34 (.tmp 3) (.tmp 114) rfl r2 0 (msL m (.slice kao m.known.length kcp) (.slice ao2 m.entries.length c2)).toArray (by simp [Act.eval]) (by simp [Act.eval]) T2 (size_b (msL_len' _ _ _)) (msL_one _ _ _ _ _ _ _) ?_
          refine hK.out _ _ (by have g := SK9.out _ G2; rw [← hw2] at g; exact g) (fun hHeld => ?_)
          clear hK K
          (try simp only [Act.put, List.getElem_toArray, List.getElem_cons_succ, List.getElem_cons_zero])
          (try rw [List.toList_toArray] at hHeld ⊢)
          rw [hw2] at hHeld ⊢
          clear hHeld hw1 hw2
          refine wpLate_done (by kernel_rfl) ?_ _
          obtain ⟨f1, f2, f3⟩ := HFIN.out _ G2
          have z1 : ∀ q, w2.cell? ⟨r1, q, none⟩ = ([.int .i64 m.kind, .int .i64 m.from_, .int .i64 m.born, .slice kAo m.known.length kAc, .int .i64 m.view, .int .i64 m.last, .int .i64 m.op, .int .i64 m.commit, .int .i64 m.client, .int .i64 m.number, .int .i64 m.nonce, .string ⟨m.text.toArray⟩, .bool m.full, .int .i64 m.base, .string ⟨m.state.toArray⟩, .slice ao1 m.entries.length c1] : List Value)[q]? := R1c.cell
          have z2 : ∀ q, w2.cell? ⟨r2, q, none⟩ = ([.int .i64 m.kind, .int .i64 m.from_, .int .i64 m.born, .slice kao m.known.length kcp, .int .i64 m.view, .int .i64 m.last, .int .i64 m.op, .int .i64 m.commit, .int .i64 m.client, .int .i64 m.number, .int .i64 m.nonce, .string ⟨m.text.toArray⟩, .bool m.full, .int .i64 m.base, .string ⟨m.state.toArray⟩, .slice ao2 m.entries.length c2] : List Value)[q]? := R2c.cell
          clear R1c R2c SK9 HFIN T1 T2 G1 G2
          go_wp2_with fail
          refine bodyPost_ret (v := .tuple #[.agg #[.int .i64 m.kind, .int .i64 m.from_, .int .i64 m.born, .slice kAo m.known.length kAc, .int .i64 m.view, .int .i64 m.last, .int .i64 m.op, .int .i64 m.commit, .int .i64 m.client, .int .i64 m.number, .int .i64 m.nonce, .string ⟨m.text.toArray⟩, .bool m.full, .int .i64 m.base, .string ⟨m.state.toArray⟩, .slice ao1 m.entries.length c1], .agg #[.int .i64 m.kind, .int .i64 m.from_, .int .i64 m.born, .slice kao m.known.length kcp, .int .i64 m.view, .int .i64 m.last, .int .i64 m.op, .int .i64 m.commit, .int .i64 m.client, .int .i64 m.number, .int .i64 m.nonce, .string ⟨m.text.toArray⟩, .bool m.full, .int .i64 m.base, .string ⟨m.state.toArray⟩, .slice ao2 m.entries.length c2]]) (by simp [results, Tryd.results6, go_sem, z1, z2]) rfl ⟨.slice kAo m.known.length kAc, .slice ao1 m.entries.length c1, .slice ao2 m.entries.length c2, rfl, f1, f2, f3⟩

end Go.Proofs.YtaejcejfpcjifaaDoor
