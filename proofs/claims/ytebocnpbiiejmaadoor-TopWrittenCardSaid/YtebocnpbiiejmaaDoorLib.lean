/- Laws on memory that every walk of this seat shares: a frame 'Frm' (which blocks may have changed), appending to a row of the call's own (one element, a slice, a string), a row of bytes read as a string. No program is in sight here. -/
import Derived.WalkKit
import Derived.WalkLawsBesides
import Derived.WalkSpells
import Derived.Deep.AppendSrc
import Derived.Lib.Strings
import Derived.Deep.QuietTactic
import Derived.BigQuiet
namespace Go.Proofs.YtebocnpbiiejmaaDoor
open Go.RowKit

/-- A fact kept from the walk's rewriting; '.out' gives it back. -/
theorem hid {p : Prop} (h : p) : Hid p := h

theorem decide_eq_true {p : Prop} [Decidable p] (h : p) : decide p = true := by simp [h]
theorem decide_eq_false {p : Prop} [Decidable p] (h : ¬ p) : decide p = false := by simp [h]

/-- From w to w' only the blocks of S, and new ones, may have changed. -/
structure Frm (S : Nat → Prop) (w w' : World) : Prop where
  os : w'.os = w.os
  tape : w'.tape = w.tape
  output : w'.output = w.output
  size : w.heap.size ≤ w'.heap.size
  block : ∀ k, k < w.heap.size → ¬ S k → w'.heap[k]? = w.heap[k]?

def No (_ : Nat) : Prop := False
def One (b k : Nat) : Prop := k = b
def Own (v : Value) (k : Nat) : Prop := v.ownBlock = some k

namespace Frm
variable {S T U : Nat → Prop} {w a b c : World}
theorem refl (S : Nat → Prop) (w : World) : Frm S w w := ⟨rfl, rfl, rfl, Nat.le_refl _, fun _ _ _ => rfl⟩
theorem trans (h : Frm S a b) (k : Frm T b c) (hS : ∀ i, i < a.heap.size → S i → U i) (hT : ∀ i, i < a.heap.size → T i → U i) : Frm U a c :=
  ⟨k.os.trans h.os, k.tape.trans h.tape, k.output.trans h.output, Nat.le_trans h.size k.size,
    fun i hi hU => (k.block i (Nat.lt_of_lt_of_le hi h.size) (fun e => hU (hT i hi e))).trans (h.block i hi (fun e => hU (hS i hi e)))⟩
theorem weak (h : Frm S a b) (hS : ∀ i, i < a.heap.size → S i → U i) : Frm U a b := ⟨h.os, h.tape, h.output, h.size, fun i hi hU => h.block i hi (fun e => hU (hS i hi e))⟩
theorem any (h : Frm No a b) : Frm U a b := h.weak (fun _ _ h => h.elim)
theorem then_ (h : Frm S a b) (k : Frm S b c) : Frm S a c := h.trans k (fun _ _ h => h) (fun _ _ h => h)
theorem thenNo (h : Frm S a b) (k : Frm No b c) : Frm S a c := h.trans k (fun _ _ h => h) (fun _ _ h => h.elim)
theorem drew (h : Frm S a b) : Frm S a b.drew := ⟨h.os, h.tape, h.output, h.size, h.block⟩
theorem drewN (h : Frm S a b) (n : Nat) : Frm S a (b.drewN n) := ⟨h.os, h.tape, h.output, h.size, h.block⟩
theorem alloc (h : Frm S a b) (o : Obj) : Frm S a (b.alloc o) :=
  h.thenNo ⟨rfl, rfl, rfl, by simp, fun k hk _ => Below.heap_alloc _ _ _ hk⟩
theorem setCell (h : Frm S a b) {p : Addr} (hp : p.block < a.heap.size → S p.block) (u : Value) : Frm S a (b.setCell p u) :=
  ⟨h.os, h.tape, h.output, by simpa [World.setCell] using h.size, fun k hk hS => (Below.heap_setCell _ _ _ _ (fun e => hS (by subst e; exact hp hk))).trans (h.block k hk hS)⟩
theorem grown {row : Option Nat} (h : Frm S a b) (hg : b.grownBy c row) (hr : ∀ k, k < a.heap.size → row = some k → S k) : Frm S a c :=
  ⟨hg.os.trans h.os, hg.tape.trans h.tape, hg.output.trans h.output, Nat.le_trans h.size hg.size,
    fun k hk hS => (hg.block k (Nat.lt_of_lt_of_le hk h.size) (fun e => hS (hr k hk e.symm))).trans (h.block k hk hS)⟩
theorem cell (h : Frm S a b) {p : Addr} (hp : p.block < a.heap.size) (hS : ¬ S p.block) : b.cell? p = a.cell? p := World.cell?_of_block (w := a) (h.block p.block hp hS)
theorem frozen (h : Frm S a b) {p : Addr} (hp : p.block < a.heap.size) (hS : ¬ S p.block) : b.frozen? p = a.frozen? p := World.frozen?_of_block (w := a) (h.block p.block hp hS)
theorem below {B : Nat} (h : Frm S a b) (hB : ∀ k, k < a.heap.size → S k → B ≤ k) (hB' : B ≤ a.heap.size) : Below B a b :=
  ⟨h.os, h.tape, h.output, h.size, fun k hk => h.block k (by omega) (fun e => by have := hB k (by omega) e; omega)⟩
theorem ofBelow {B : Nat} (h : Below B a b) (hB : ∀ k, k < a.heap.size → B ≤ k → S k) : Frm S a b :=
  ⟨h.os, h.tape, h.output, h.size, fun k hk hS => h.block k (by rcases Nat.lt_or_ge k B with h' | h'; exact h'; exact (hS (hB k hk h')).elim)⟩
theorem ofBelow_size (h : Below a.heap.size a b) : Frm S a b := ofBelow h (fun k hk h => by omega)
theorem toBelow (h : Frm No a b) : Below a.heap.size a b := h.below (fun _ _ h => h.elim) (Nat.le_refl _)
theorem ofGrown {row : Option Nat} (hg : a.grownBy b row) (hr : ∀ k, row = some k → S k) : Frm S a b := (refl S a).grown hg (fun k _ => hr k)
theorem row {base : Nat} {e : TypeId} {size : Nat} {v : Value} {n : Nat} {xs : List Value} (h : Frm S a b) (ho : a.ownsRow base e size v n xs) (hS : ∀ k, v.ownBlock = some k → ¬ S k) : b.ownsRow base e size v n xs := by
  have hlt := ho.lt
  obtain ⟨h1, h2⟩ := ho
  refine ⟨h1, ?_⟩
  rcases h2 with h2 | ⟨g, cap, cur, rfl, hg, hh, r⟩
  · exact Or.inl h2
  · exact Or.inr ⟨g, cap, cur, rfl, hg, by rw [h.block g (hlt g rfl).2 (hS g rfl)]; exact hh, r⟩
end Frm

/-- The block that was made last, some steps later. -/
theorem Frm.box {w w1 : World} {cs : Array Value} {T : TypeId} (h : Frm No (w.alloc (.cells cs T)) w1) (j : Nat) : w1.cell? ⟨w.heap.size, j, none⟩ = cs[j]? :=
  (h.cell (p := ⟨w.heap.size, j, none⟩) (by simp) (fun h => h)).trans (World.cell?_alloc_at _ _ _ _ rfl)
/-- A row that is owned from one block on is owned from any block on that lies below it. -/
theorem ownsRow_base {w : World} {base base' : Nat} {e : TypeId} {size : Nat} {v : Value} {n : Nat} {xs : List Value} (h : w.ownsRow base e size v n xs) (hb : ∀ k, v.ownBlock = some k → base' ≤ k) : w.ownsRow base' e size v n xs := by
  obtain ⟨h1, h2⟩ := h
  refine ⟨h1, ?_⟩
  rcases h2 with h2 | ⟨g, cap, cur, rfl, hg, hh, r⟩
  · exact Or.inl h2
  · exact Or.inr ⟨g, cap, cur, rfl, hb g rfl, hh, r⟩

theorem ownsRow_shape {w : World} {base : Nat} {e : TypeId} {size : Nat} {v : Value} {n : Nat} {xs : List Value} (h : w.ownsRow base e size v n xs) : ∃ ao c, v = .slice ao n c := by
  rcases h.2 with ⟨rfl, rfl⟩ | ⟨g, cap, cur, rfl, _⟩
  · exact ⟨_, _, rfl⟩
  · exact ⟨_, _, rfl⟩

/-- Bytes as cells. -/
def bytesV (l : List UInt8) : List Value := l.map fun b => Value.int .u8 (b.toNat : Int)
@[simp] theorem bytesV_length (l : List UInt8) : (bytesV l).length = l.length := by simp [bytesV]
theorem bytesV_append (l m : List UInt8) : bytesV (l ++ m) = bytesV l ++ bytesV m := by simp [bytesV]
theorem byteCells_eq (s : ByteArray) : byteCells s = bytesV s.data.toList := rfl
theorem bytesV_one (l : List UInt8) : ∀ u ∈ bytesV l, u.oneCell' = true := by
  intro u hu
  obtain ⟨_, _, rfl⟩ := List.mem_map.1 hu
  rfl

section
variable {P : Program} (w : World)

theorem ownsRow_first {base : Nat} {e : TypeId} {size : Nat} {g n cap : Nat} {xs : List Value} (hown : w.ownsRow base e size (.slice (some ⟨g, 0, none⟩) n cap) n xs) :
    (Builtin.firstCells size n (.slice (some ⟨g, 0, none⟩) n cap)).run P w.drew = .ok xs.toArray w.drew :=
  run_firstCells_some w.drew size n ⟨g, 0, none⟩ n cap xs hown.1 (hown.drew.cells (g := g) rfl)

/-- append of whatever yields cells, to a row of the call's own. -/
theorem run_append_own_src (base : Nat) (t tx ty e : TypeId) (i : TypeInfo) (z : Value) (size bytes : Nat) (ht : P.underlying t = some (.slice e)) (hi : P.info? e = some i) (hz : i.zero = some z)
    (hsize : i.size = size) (hby : i.bytes = bytes) (hzs : z.cells.size = size)
    (v : Value) (n : Nat) (xs : List Value) (hown : w.ownsRow base e size v n xs)
    (x : Value) (m : Nat) (news : List Value) (hs : Src P size tx x m news w)
    (h63 : n + m ≤ maxLen) (hbytes : (n + m) * bytes ≤ 140737488355328) (hbase : base ≤ w.heap.size) :
    ∃ v' w', (Builtin.append_ #[t, tx] ty #[v, x]).run P w = .ok v' w' ∧ w'.ownsRow base e size v' (n + m) (xs ++ news) ∧ w.grownBy w' v.ownBlock ∧
      (v'.ownBlock = v.ownBlock ∨ v'.ownBlock = some w.heap.size) := by
  subst hsize
  subst hby
  have hsmall : n + m ≤ 9223372036854775807 := by simp only [maxLen] at h63; omega
  have hlen : (xs ++ news).length = (n + m) * i.size := by rw [List.length_append, hown.1, hs.newsLen, Nat.add_mul]
  have grown : ∀ (old : Nat), old < n + m → ∀ (row : Option Nat),
      (w.drew.alloc (.cells ((xs ++ news).toArray ++ Builtin.zeroCells z.cells (grownCap w (n + m) old e - (n + m))) e)).ownsRow base e i.size
        (.slice (some ⟨w.heap.size, 0, none⟩) (n + m) (grownCap w (n + m) old e)) (n + m) (xs ++ news) ∧
      w.grownBy (w.drew.alloc (.cells ((xs ++ news).toArray ++ Builtin.zeroCells z.cells (grownCap w (n + m) old e - (n + m))) e)) row := by
    intro old ho row
    have hge := grownCap_ge w (n + m) old e
    have hcm : grownCap w (n + m) old e ≤ maxLen := grownCap_le_maxLen w (n + m) old e h63
    refine ⟨⟨hlen, .inr ⟨w.heap.size, _, _, rfl, hbase, heap_alloc_new w.drew _, hge, hcm, ?_, ?_⟩⟩, ⟨rfl, rfl, rfl, by simp, fun k hk _ => Below.heap_alloc w.drew _ k hk⟩⟩
    · simp only [Array.size_append, List.size_toArray, size_zeroCells, hzs, hlen, ← Nat.add_mul]
      congr 1
      omega
    · simp only [Array.toList_append]
      rw [← hlen]
      exact List.take_left
  rcases hown.2 with ⟨rfl, rfl⟩ | ⟨g, cap, cur, rfl, hbg, hg, hnc, hcm, hcs, htake⟩
  · have hx : xs = [] := List.eq_nil_of_length_eq_zero (by simpa using hown.1)
    subst hx
    by_cases hm : m = 0
    · subst hm
      have hn : news = [] := List.eq_nil_of_length_eq_zero (by simpa using hs.newsLen)
      subst hn
      have hc := hs.cells
      refine ⟨.slice none 0 0, w, ?_, World.ownsRow_nil w base e i.size, ⟨rfl, rfl, rfl, Nat.le_refl _, fun _ _ _ => rfl⟩, .inl rfl⟩
      rcases hs.kind with ⟨e', hk⟩ | hk <;> simp [Builtin.append_, run_underlying ht, run_underlying hk, sizeOf, typeInfo, hi, hs.len, hc]
    · have hr := run_append_grow_src (P := P) w t tx ty e i z ht hi hz none 0 0 [] (run_firstCells_none w.drew i.size 0 0 0) x m news hs (by omega) (by omega) (growslice_fits (by omega) (by simpa using hbytes))
      have hgr := grown 0 (by omega) (Value.ownBlock (.slice none 0 0))
      simp only [Nat.zero_add, List.nil_append] at hgr hr ⊢
      exact ⟨_, _, hr, hgr.1, hgr.2, .inr rfl⟩
  · by_cases hroom : n + m ≤ cap
    · have hfit : n * i.size + news.length ≤ cur.size := by rw [hs.newsLen, hcs, ← Nat.add_mul]; exact Nat.mul_le_mul_right _ hroom
      have hst := run_storeCells_at P g (n * i.size) e news 0 cur w hg (by simpa using hfit) hs.one
      simp only [Nat.add_zero] at hst
      have hr : (Builtin.append_ #[t, tx] ty #[.slice (some ⟨g, 0, none⟩) n cap, x]).run P w =
          .ok (.slice (some ⟨g, 0, none⟩) (n + m) cap) (w.setRow g (cur.toList.take (n * i.size) ++ news ++ cur.toList.drop (n * i.size + news.length)).toArray) := by
        rcases hs.kind with ⟨e', hk⟩ | hk <;> simp [Builtin.append_, run_underlying ht, run_underlying hk, sizeOf, typeInfo, hi, hs.len, hroom, hs.cells, Addr.add_lit, hst]
      refine ⟨_, _, hr, ⟨hlen, .inr ⟨g, cap, _, rfl, hbg, setRow_heap w g cur _ e _ hg, hroom, hcm, ?_, ?_⟩⟩, ⟨rfl, rfl, rfl, by simp, fun k _ hk => setRow_other w g k _ (fun e => hk (by simp [Value.ownBlock, e]))⟩, .inl rfl⟩
      · simp only [List.size_toArray, List.length_append, List.length_take, List.length_drop, Array.length_toList]
        omega
      · rw [htake, ← hlen]
        exact List.take_left
    · have hr := run_append_grow_src (P := P) w t tx ty e i z ht hi hz (some ⟨g, 0, none⟩) n cap xs (ownsRow_first w hown) x m news hs (by omega) (by omega) (growslice_fits (by omega) hbytes)
      have hgr := grown cap (by omega) (Value.ownBlock (.slice (some ⟨g, 0, none⟩) n cap))
      exact ⟨_, _, hr, hgr.1, hgr.2, .inr rfl⟩
end

section
variable {P : Program} (W : World) {ops : Array Oper} {rest : List Oper} {o : Oper} {a : Act} {Q : Exit → Act → World → Prop}

theorem wpList_append_src (hg : o.guard = none) (s x : Operand) (t tx : TypeId)
    (ho : o.op = .call { callee := .builtin .append, args := #[s, x], argTypes := #[t, tx] })
    (base : Nat) (e : TypeId) (i : TypeInfo) (z : Value) (size bytes : Nat) (ht : P.underlying t = some (.slice e)) (hi : P.info? e = some i) (hz : i.zero = some z)
    (hsize : i.size = size) (hby : i.bytes = bytes) (hzs : z.cells.size = size)
    (v : Value) (n : Nat) (xs : List Value) (hs : a.eval s = v) (hown : W.ownsRow base e size v n xs)
    (xv : Value) (m : Nat) (news : List Value) (hx : a.eval x = xv) (hsrc : Src P size tx xv m news W)
    (h63 : n + m ≤ maxLen) (hbytes : (n + m) * bytes ≤ 140737488355328) (hbase : base ≤ W.heap.size)
    (h : ∀ v' w', w'.ownsRow base e size v' (n + m) (xs ++ news) → Frm (Own v) W w' → (v'.ownBlock = v.ownBlock ∨ v'.ownBlock = some W.heap.size) → wpList P ops Q rest (a.put o.dst v') w') : wpList P ops Q (o :: rest) a W :=
  wpList_plain hg fun K hK => by
    obtain ⟨v', w', hr, h2, h3, h4⟩ := run_append_own_src (P := P) W base t tx o.type e i z size bytes ht hi hz hsize hby hzs v n xs hown xv m news hsrc h63 hbytes hbase
    unfold Oper.wp execOp
    simp only [ho, resolve, invoke, builtin, Sem.run_bind, Sem.run_pure, Result.andThen_ok, List.map_toArray, List.map_cons, List.map_nil, hs, hx, hr]
    exact hK _ _ (h v' w' h2 (Frm.ofGrown h3 (fun k e => e)) h4)

/-- 'append(out, s...)', s a string. -/
theorem wpList_append_str (hg : o.guard = none) (s x : Operand) (t tx : TypeId)
    (ho : o.op = .call { callee := .builtin .append, args := #[s, x], argTypes := #[t, tx] })
    (base : Nat) (e : TypeId) (i : TypeInfo) (ht : P.underlying t = some (.slice e)) (htx : P.underlying tx = some .string) (hi : P.info? e = some i) (hz : i.zero = some (.int .u8 0))
    (hsize : i.size = 1) (hby : i.bytes = 1)
    (v : Value) (n : Nat) (l : List UInt8) (hs : a.eval s = v) (hown : W.ownsRow base e 1 v n (bytesV l))
    (sl : List UInt8) (hx : a.eval x = .string ⟨sl.toArray⟩)
    (hbytes : n + sl.length ≤ 140737488355328) (hbase : base ≤ W.heap.size)
    (h : ∀ v' w', w'.ownsRow base e 1 v' (n + sl.length) (bytesV (l ++ sl)) → Frm (Own v) W w' → (v'.ownBlock = v.ownBlock ∨ v'.ownBlock = some W.heap.size) → wpList P ops Q rest (a.put o.dst v') w') : wpList P ops Q (o :: rest) a W := by
  have hsz : (⟨sl.toArray⟩ : ByteArray).size = sl.length := by simp [ByteArray.size]
  have hsrc := Src.ofString W htx ⟨sl.toArray⟩
  rw [hsz] at hsrc
  exact wpList_append_src W hg s x t tx ho base e i _ 1 1 ht hi hz hsize hby rfl v n _ hs hown _ sl.length (bytesV sl) hx hsrc (by unfold maxLen; omega) (by omega) hbase
    (fun v' w' h2 h3 h4 => h v' w' (by rw [bytesV_append]; exact h2) h3 h4)

/-- 'append(out, x)', x one element: the element lies in the block that was made last. -/
theorem wpList_push (hg : o.guard = none) (s x : Operand) (t : TypeId)
    (ho : o.op = .call { callee := .builtin .append, args := #[s, x], argTypes := #[t, t] })
    (base : Nat) (e : TypeId) (i : TypeInfo) (z : Value) (size bytes : Nat) (ht : P.underlying t = some (.slice e)) (hi : P.info? e = some i) (hz : i.zero = some z)
    (hsize : i.size = size) (hby : i.bytes = bytes) (hzs : z.cells.size = size)
    (v : Value) (n : Nat) (xs : List Value) (hs : a.eval s = v) (hown : W.ownsRow base e size v n xs)
    (news : List Value) (hx : a.eval x = .slice (some ⟨W.heap.size, 0, none⟩) 1 1) (hl : news.length = size) (h1 : ∀ u ∈ news, u.oneCell' = true)
    (hbytes : (n + 1) * bytes ≤ 140737488355328) (hbytes1 : n + 1 ≤ 140737488355328) (hbase : base ≤ W.heap.size)
    (h : ∀ v' w', w'.ownsRow base e size v' (n + 1) (xs ++ news) → Frm (Own v) W w' → (v'.ownBlock = v.ownBlock ∨ ∃ k, v'.ownBlock = some k ∧ W.heap.size ≤ k) → W.heap.size < w'.heap.size → wpList P ops Q rest (a.put o.dst v') w') : wpList P ops Q (o :: rest) a (W.alloc (.cells news.toArray e)) := by
  refine wpList_append_src (W.alloc (.cells news.toArray e)) hg s x t t ho base e i z size bytes ht hi hz hsize hby hzs v n xs hs (hown.alloc _) _ 1 news hx
    (Src.ofSlice _ ht ⟨W.heap.size, 0, none⟩ 1 1 news (by simpa using hl) (fun j u hj => ?_) h1) (by unfold maxLen; omega) hbytes (by simp; omega) ?_
  · have hjl : j < news.length := by
      rcases Nat.lt_or_ge j news.length with h | h
      · exact h
      · simp [List.getElem?_eq_none h] at hj
    have : (⟨W.heap.size, 0, none⟩ : Addr).add j = ⟨W.heap.size, j, none⟩ := by rw [Addr.add_lit]; simp
    rw [this, World.cell?_alloc_at _ _ _ _ rfl]
    simpa using hj
  · intro v' w' h2 h3 h4
    refine h v' w' h2 (((Frm.refl _ _).alloc _).then_ h3) ?_ ?_
    · rcases h4 with h4 | h4
      · exact .inl h4
      · exact .inr ⟨_, h4, by simp⟩
    · have := h3.size
      simp at this
      omega
end

section
variable {P : Program} (W : World) {ops : Array Oper} {rest : List Oper} {o : Oper} {a : Act} {Q : Exit → Act → World → Prop}
/-- The same for an element of one cell. -/
theorem wpList_push1 (hg : o.guard = none) (s x : Operand) (t : TypeId)
    (ho : o.op = .call { callee := .builtin .append, args := #[s, x], argTypes := #[t, t] })
    (base : Nat) (e : TypeId) (i : TypeInfo) (z : Value) (bytes : Nat) (ht : P.underlying t = some (.slice e)) (hi : P.info? e = some i) (hz : i.zero = some z)
    (hsize : i.size = 1) (hby : i.bytes = bytes) (hzs : z.cells.size = 1)
    (v : Value) (n : Nat) (xs : List Value) (hs : a.eval s = v) (hown : W.ownsRow base e 1 v n xs)
    (u : Value) (hx : a.eval x = .slice (some ⟨W.heap.size, 0, none⟩) 1 1) (h1 : u.oneCell' = true)
    (hbytes : (n + 1) * bytes ≤ 140737488355328) (hbytes1 : n + 1 ≤ 140737488355328) (hbase : base ≤ W.heap.size)
    (h : ∀ v' w', w'.ownsRow base e 1 v' (n + 1) (xs ++ [u]) → Frm (Own v) W w' → (v'.ownBlock = v.ownBlock ∨ ∃ k, v'.ownBlock = some k ∧ W.heap.size ≤ k) → W.heap.size < w'.heap.size → wpList P ops Q rest (a.put o.dst v') w') : wpList P ops Q (o :: rest) a (W.alloc (.cells #[u] e)) :=
  wpList_push W hg s x t ho base e i z 1 bytes ht hi hz hsize hby hzs v n xs hs hown [u] hx rfl (fun u' hu => by simp at hu; subst hu; exact h1) hbytes hbytes1 hbase h
end

section
variable {P : Program} {w : World}
/-- A row of bytes of the call's own, made a string. -/
theorem run_convert_own {base src dst e : TypeId} (hs : P.underlying src = some (.slice e)) (he : P.underlying e = some (.int .u8)) (hd : P.underlying dst = some .string) {v : Value} {n : Nat} {l : List UInt8}
    (hown : w.ownsRow base e 1 v n (bytesV l)) : (convert src dst v).run P w = .ok (.string ⟨l.toArray⟩) w := by
  have hlen : l.length = n := by simpa using hown.1
  rcases hown.2 with ⟨rfl, rfl⟩ | ⟨g, cap, cur, rfl, hbg, hg, hnc, hcm, hcs, htake⟩
  · rw [run_convert_bytes_nil w src e hs he 0 0 dst hd]
    have : l = [] := List.eq_nil_of_length_eq_zero hlen
    subst this
    rfl
  · have hx : strOfNums (l.map fun b => (b.toNat : Int)) = ⟨l.toArray⟩ := by
      unfold strOfNums
      congr 2
      rw [List.map_map]
      refine (List.map_congr_left fun b _ => ?_).trans (List.map_id l)
      show UInt8.ofNat (Int.toNat (b.toNat : Int)) = b
      rw [Int.toNat_natCast, UInt8.ofNat_toNat]
    rw [← hx]
    refine run_convert_bytes_arg w src e hs he g 0 n cap (l.map fun b => (b.toNat : Int)) (by simpa using hlen) (fun i hi => ?_) dst hd
    rw [Nat.zero_add, hown.cellAt (cap := cap) i (by omega)]
    have hil : i < l.length := by omega
    simp [bytesV, hil]
end

/-- A slice that reads as n elements of so many cells each. -/
structure Rd (w : World) (v : Value) (n size : Nat) (xs : List Value) : Prop where
  len : xs.length = n * size
  cells : (n = 0 ∧ ∃ ao c, v = .slice ao 0 c) ∨ ∃ b o c, v = .slice (some ⟨b, o, none⟩) n c ∧ ∀ j, j < n * size → w.cell? ⟨b, o + j, none⟩ = xs[j]?

theorem Rd.shape {w : World} {v : Value} {n size : Nat} {xs : List Value} (h : Rd w v n size xs) : ∃ ao c, v = .slice ao n c := by
  rcases h.cells with ⟨rfl, ao, c, rfl⟩ | ⟨b, o, c, rfl, _⟩
  · exact ⟨_, _, rfl⟩
  · exact ⟨_, _, rfl⟩
theorem Rd.at_ {w : World} {ao : Option Addr} {c : Nat} {n size : Nat} {xs : List Value} (h : Rd w (.slice ao n c) n size xs) (hn : 0 < n * size) :
    ∃ b o, ao = some ⟨b, o, none⟩ ∧ ∀ j (hj : j < n * size), w.cell? ⟨b, o + j, none⟩ = some (xs[j]'(by rw [h.len]; exact hj)) := by
  rcases h.cells with ⟨h0, _⟩ | ⟨b, o, c', e, hc⟩
  · subst h0; simp at hn
  · simp only [Value.slice.injEq] at e
    refine ⟨b, o, e.1, fun j hj => ?_⟩
    rw [hc j hj, List.getElem?_eq_getElem]
theorem Rd.frm {w w' : World} {v : Value} {n size : Nat} {xs : List Value} {S : Nat → Prop} (h : Rd w v n size xs) (hf : Frm S w w') (hS : ∀ k, v.ownBlock = some k → ¬ S k) : Rd w' v n size xs := by
  refine ⟨h.len, ?_⟩
  rcases h.cells with h0 | ⟨b, o, c, rfl, hc⟩
  · exact Or.inl h0
  · refine Or.inr ⟨b, o, c, rfl, fun j hj => ?_⟩
    have hj' : j < xs.length := by rw [h.len]; exact hj
    have h1 := hc j hj
    rw [List.getElem?_eq_getElem hj'] at h1
    have hb : b < w.heap.size := World.block_lt_of_cell? w _ h1
    rw [← hc j hj]
    exact hf.cell (p := ⟨b, o + j, none⟩) hb (hS b rfl)
theorem Rd.ofOwn {w : World} {base : Nat} {e : TypeId} {size : Nat} {v : Value} {n : Nat} {xs : List Value} (h : w.ownsRow base e size v n xs) : Rd w v n size xs := by
  refine ⟨h.1, ?_⟩
  rcases h.2 with ⟨rfl, rfl⟩ | ⟨g, cap, cur, rfl, hbg, hg, hnc, hcm, hcs, htake⟩
  · exact Or.inl ⟨rfl, _, _, rfl⟩
  · refine Or.inr ⟨g, 0, cap, rfl, fun j hj => ?_⟩
    rw [Nat.zero_add]
    exact h.cellAt (cap := cap) j hj
theorem Rd.nil (w : World) (size : Nat) (ao : Option Addr) (c : Nat) : Rd w (.slice ao 0 c) 0 size [] := ⟨by simp, Or.inl ⟨rfl, _, _, rfl⟩⟩

/-! Strings as lists of bytes -/
theorem str_append (a b : List UInt8) : ((⟨a.toArray⟩ : ByteArray) ++ (⟨b.toArray⟩ : ByteArray)) = ⟨(a ++ b).toArray⟩ := by
  apply ByteArray.ext
  rw [ByteArray.data_append]
  simp
theorem str_append_byte (x : UInt8) (b : List UInt8) : ((⟨#[x]⟩ : ByteArray) ++ (⟨b.toArray⟩ : ByteArray)) = ⟨(x :: b).toArray⟩ := str_append [x] b
theorem str_extract (l : List UInt8) (a b : Nat) : (⟨l.toArray⟩ : ByteArray).extract a b = ⟨((l.drop a).take (b - a)).toArray⟩ := Lib.extract_eq _ _ _
theorem str_size (l : List UInt8) : (⟨l.toArray⟩ : ByteArray).size = l.length := by simp [ByteArray.size]
theorem str_toList (l : List UInt8) : (⟨l.toArray⟩ : ByteArray).toList = l := Lib.toList_data _
theorem str_get (l : List UInt8) (i : Nat) (h : i < (⟨l.toArray⟩ : ByteArray).size) : (⟨l.toArray⟩ : ByteArray)[i]'h = l[i]'(by rw [← str_size l]; exact h) := rfl
attribute [go_sem] str_get str_size str_append str_extract str_toList
theorem str_of (s : ByteArray) : ∃ l : List UInt8, s = ⟨l.toArray⟩ := ⟨s.data.toList, (Lib.mk_data s).symm⟩

section
variable {P : Program} (W : World)
/-- A literal of one byte, made a string. -/
theorem conv_one {src dst e : TypeId} (hs : P.underlying src = some (.slice e)) (he : P.underlying e = some (.int .u8)) (hd : P.underlying dst = some .string) (x : Int) :
    (convert src dst (.slice (some ⟨W.heap.size, 0, none⟩) 1 1)).run P (W.alloc (.cells #[.int .u8 x] e)) = .ok (.string ⟨[UInt8.ofNat x.toNat].toArray⟩) (W.alloc (.cells #[.int .u8 x] e)) :=
  run_convert_bytes_arg _ src e hs he W.heap.size 0 1 1 [x] rfl (fun i hi => by
    obtain rfl : i = 0 := by omega
    rw [World.cell?_alloc_at _ _ _ _ rfl]
    rfl) dst hd
theorem conv_two {src dst e : TypeId} (hs : P.underlying src = some (.slice e)) (he : P.underlying e = some (.int .u8)) (hd : P.underlying dst = some .string) (x y : Int) :
    (convert src dst (.slice (some ⟨W.heap.size, 0, none⟩) 2 2)).run P (W.alloc (.cells #[.int .u8 x, .int .u8 y] e)) = .ok (.string ⟨[UInt8.ofNat x.toNat, UInt8.ofNat y.toNat].toArray⟩) (W.alloc (.cells #[.int .u8 x, .int .u8 y] e)) :=
  run_convert_bytes_arg _ src e hs he W.heap.size 0 2 2 [x, y] rfl (fun i hi => by
    have : i = 0 ∨ i = 1 := by omega
    rcases this with rfl | rfl <;> (rw [World.cell?_alloc_at _ _ _ _ rfl]; rfl)) dst hd
theorem conv_three {src dst e : TypeId} (hs : P.underlying src = some (.slice e)) (he : P.underlying e = some (.int .u8)) (hd : P.underlying dst = some .string) (x y z : Int) :
    (convert src dst (.slice (some ⟨W.heap.size, 0, none⟩) 3 3)).run P (W.alloc (.cells #[.int .u8 x, .int .u8 y, .int .u8 z] e)) = .ok (.string ⟨[UInt8.ofNat x.toNat, UInt8.ofNat y.toNat, UInt8.ofNat z.toNat].toArray⟩) (W.alloc (.cells #[.int .u8 x, .int .u8 y, .int .u8 z] e)) :=
  run_convert_bytes_arg _ src e hs he W.heap.size 0 3 3 [x, y, z] rfl (fun i hi => by
    have : i = 0 ∨ i = 1 ∨ i = 2 := by omega
    rcases this with rfl | rfl | rfl <;> (rw [World.cell?_alloc_at _ _ _ _ rfl]; rfl)) dst hd
end

/-! A region that draws its order, whose operations only read, whose callees leave all that was there as it was. -/
def Wd (w : World) : Type := { w' : World // Frm No w w' }
instance (w : World) : Nonempty (Wd w) := ⟨⟨w, Frm.refl _ _⟩⟩
def Wd.val {w : World} (t : Wd w) : World := t.1
theorem Wd.frm {w : World} (t : Wd w) : Frm No w t.val := t.2
theorem Wd.cell {w : World} {p : Addr} {v : Value} (h : w.cell? p = some v) (t : Wd w) : t.val.cell? p = some v :=
  (t.frm.cell (World.block_lt_of_cell? w p h) (fun h => h)).trans h
theorem Wd.row {w : World} {base : Nat} {e : TypeId} {size : Nat} {v : Value} {n : Nat} {xs : List Value} (ho : w.ownsRow base e size v n xs) (t : Wd w) : t.val.ownsRow base e size v n xs :=
  t.frm.row ho (fun _ _ h => h)
theorem wp_region_frm {P : Program} {id : Nat} {Q : Exit → Act → World → Prop} {a : Act} {w : World} {l : List Oper} (hm : P.follows .mixedOrders = true) (hB : Region.lexB .any l.toArray = true)
    (h : wpQuiet P l.toArray (fun w' => ∃ t : Wd w, w' = t.val) (fun a' => ∀ w', Frm No w w' → Q .normal a' w') l a) : (Code.region id l.toArray true).wp P Q a w := by
  have hC : (fun w' => ∃ t : Wd w, w' = t.val) = Frm No w := by
    funext w'
    exact propext ⟨fun ⟨t, ht⟩ => by rw [ht]; exact t.frm, fun h => ⟨⟨w', h⟩, rfl⟩⟩
  rw [hC] at h
  exact wp_region_quiet (C := Frm No w) hm hB ⟨rfl, rfl, rfl, Nat.le_refl _, fun _ _ _ => rfl⟩ (by simpa using h)
/-- A contract, met in such a region. -/
theorem Calls.wd {P : Program} {f : FuncId} {args : Array Value} {w : World} {t : Wd w} {v : Value} (h : Calls P f args t.val fun e w' => e = .returned v ∧ Frm No t.val w') :
    Calls P f args t.val fun e w'' => e = .returned v ∧ ∃ t' : Wd w, w'' = t'.val :=
  h.mono fun _ w' ⟨he, hf⟩ => ⟨he, ⟨w', t.frm.thenNo hf⟩, rfl⟩
end Go.Proofs.YtebocnpbiiejmaaDoor
