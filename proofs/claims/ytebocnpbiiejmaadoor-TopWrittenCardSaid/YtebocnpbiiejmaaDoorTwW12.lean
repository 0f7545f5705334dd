/- The writer of a text: strings.Builder's methods on it. A literal in quotes: the walk of lex.Quote. -/
import Derived.Test.YtebocnpbiiejmaaDoorOutAll
import Derived.Test.YtebocnpbiiejmaaDoorTwAB
import Derived.Lib.FrozenHead
import Derived.Lib.Builder
import Derived.Test.YtebocnpbiiejmaaDoorTwS56
import Derived.Handy
import Derived.WalkSpells
import Derived.Deep.CutRange
import Derived.Deep.RegionHeld3
import Derived.Deep.DeepCutAuto
namespace Go.Proofs.YtebocnpbiiejmaaDoor
open Go.RowKit
/-- A writer lies at block b: its row is v, its bytes are l. -/
structure Wri (w : World) (b : Nat) (v : Value) (l : List UInt8) : Prop where
  c0 : ∃ p, w.cell? ⟨b, 0, none⟩ = some p ∧ (p = .pointer none ∨ p = .pointer (some ⟨b, 0, none⟩))
  c1 : w.cell? ⟨b, 1, none⟩ = some v
  f : ∀ j, w.frozen? ⟨b, j, none⟩ = false
  sh : w.shape? b = some (58, 2)
  row : w.ownsRow (b + 1) 5 1 v l.length (bytesV l)
  apart : v.ownBlock ≠ some b
/-- the writer's blocks -/
def WrS (b : Nat) (v : Value) (k : Nat) : Prop := k = b ∨ v.ownBlock = some k
/-- it was written: what it holds now -/
structure Wrote (b : Nat) (w : World) (v : Value) (l : List UInt8) (v' : Value) (w' : World) : Prop where
  at_ : Wri w' b v' l
  frm : Frm (WrS b v) w w'
  own : v'.ownBlock = v.ownBlock ∨ ∃ k, v'.ownBlock = some k ∧ w.heap.size ≤ k
def WroteP (b : Nat) (w : World) (v : Value) (l : List UInt8) (r : Value) (e : Ending) (w' : World) : Prop :=
  e = .returned r ∧ ∃ v', Wrote b w v l v' w'
theorem Wri.lt {w : World} {b : Nat} {v : Value} {l : List UInt8} (h : Wri w b v l) : b < w.heap.size := World.block_lt_of_cell? w _ h.c1
theorem shape_frm {S : Nat → Prop} {w w1 : World} {b : Nat} (hf : Frm S w w1) (hb : b < w.heap.size) (hS : ¬ S b) : w1.shape? b = w.shape? b := by
  simp only [World.shape?, hf.block b hb hS]
theorem shape_set {w : World} {p : Addr} {u : Value} {b : Nat} : (w.setCell p u).shape? b = w.shape? b := by
  simp only [World.shape?, World.setCell]
  rw [Array.getElem?_modify]
  by_cases e : p.block = b
  · rw [if_pos e]
    cases h : w.heap[b]? with
    | none => rfl
    | some o =>
      cases o <;> simp
      split <;> simp
  · rw [if_neg e]
theorem Wri.frm {b : Nat} {w w1 : World} {v : Value} {l : List UInt8} (h : Wri w b v l) {S : Nat → Prop} (hf : Frm S w w1) (hS : ¬ S b) (hS2 : ∀ k, v.ownBlock = some k → ¬ S k) : Wri w1 b v l := by
  have hb := h.lt
  obtain ⟨p, hp, hpp⟩ := h.c0
  exact ⟨⟨p, (hf.cell (p := ⟨b, 0, none⟩) hb hS).trans hp, hpp⟩, (hf.cell (p := ⟨b, 1, none⟩) hb hS).trans h.c1, fun j => (hf.frozen (p := ⟨b, j, none⟩) hb hS).trans (h.f j), (shape_frm hf hb hS).trans h.sh, hf.row h.row hS2, h.apart⟩
theorem Wrote.refl {b : Nat} {w : World} {v : Value} {l : List UInt8} (h : Wri w b v l) : Wrote b w v l v w := ⟨h, Frm.refl _ _, Or.inl rfl⟩
theorem Wrote.trans {b : Nat} {w w1 w2 : World} {v v1 v2 : Value} {l1 l2 : List UInt8} (h : Wrote b w v l1 v1 w1) (k : Wrote b w1 v1 l2 v2 w2) : Wrote b w v l2 v2 w2 := by
  refine ⟨k.at_, h.frm.trans k.frm (fun _ _ h => h) (fun i hi hs => ?_), ?_⟩
  · rcases hs with rfl | hs
    · exact Or.inl rfl
    · rcases h.own with e | ⟨k, e, hk⟩
      · exact Or.inr (e ▸ hs)
      · rw [e] at hs; cases hs; omega
  · rcases k.own with e | ⟨k, e, hk⟩
    · rcases h.own with e' | ⟨k', e', hk'⟩
      · exact Or.inl (e.trans e')
      · exact Or.inr ⟨k', e.trans e', hk'⟩
    · exact Or.inr ⟨k, e, Nat.le_trans h.frm.size hk⟩
/-- Behind a step, a step that leaves all that was there. -/
theorem Wrote.no {b : Nat} {w w1 w2 : World} {v v1 : Value} {l1 : List UInt8} (h : Wrote b w v l1 v1 w1) (hf : Frm No w1 w2) : Wrote b w v l1 v1 w2 :=
  ⟨h.at_.frm hf (fun h => h) (fun _ _ h => h), h.frm.thenNo hf, h.own⟩
theorem Wrote.behind {b : Nat} {w w1 w2 : World} {v v2 : Value} {l2 : List UInt8} (hf : Frm No w w1) (k : Wrote b w1 v l2 v2 w2) : Wrote b w v l2 v2 w2 := by
  refine ⟨k.at_, hf.trans k.frm (fun _ _ h => h.elim) (fun _ _ h => h), ?_⟩
  rcases k.own with e | ⟨k, e, hk⟩
  · exact Or.inl e
  · exact Or.inr ⟨k, e, Nat.le_trans hf.size hk⟩
/-- a block that is none of the writer's stands -/
theorem Wrote.keeps {b : Nat} {w w1 : World} {v v1 : Value} {l : List UInt8} (_h : Wrote b w v l v1 w1) {k : Nat} (hb : k ≠ b) (ho : v.ownBlock ≠ some k) : ¬ WrS b v k := fun e => e.elim hb ho
theorem lies_writer : liesAt Tryd.prog Tryd.prog.depth 58 (2 / Tryd.prog.cellsOf 58) 0 56 1 = true := by kernel_rfl
theorem size_builder : ∃ j, Tryd.prog.info? 56 = some j ∧ j.size ≠ 0 := by
  have h : (Tryd.prog.info? 56).map (fun j => decide (j.size ≠ 0)) = some true := by kernel_rfl
  obtain ⟨j, h1, h2⟩ := Option.map_eq_some_iff.1 h
  exact ⟨j, h1, of_decide_eq_true h2⟩
set_option maxRecDepth 100000 in
/-- the first check: behind it the writer knows its own place -/
theorem check_any (b : Nat) (v : Value) (l : List UInt8) (w : World) (h : Wri w b v l) :
    Calls Tryd.prog 39 #[.pointer (some ⟨b, 0, none⟩)] w fun e w' => e = .returned (.tuple #[]) ∧ Wri w' b v l ∧ Frm (One b) w w' ∧ w'.heap.size = w.heap.size := by
  obtain ⟨j, hj, hjs⟩ := size_builder
  obtain ⟨p, hp, hpp⟩ := h.c0
  have hz := h.f 0
  have hsh := h.sh
  have HH := hid h
  clear h
  rcases hpp with rfl | rfl
  · go_enter Tryd.func39, Tryd.ntmps39
    go_wp2_with fail
    rw [Lib.run_to_unsafe w ⟨b, 0, none⟩ (t := 56) (by kernel_rfl) (by kernel_rfl) hj hjs hsh (Nat.zero_lt_succ 1)]
    simp only [Result.andThen]
    rw [Oper.upon_value]
    go_wp2_with fail
    rw [run_callFunc_extern Tryd.func65 (by kernel_rfl) (by kernel_rfl) (by kernel_rfl) (e := Extern.AbiNoEscape.same) (by kernel_rfl)]
    rw [Lib.run_noEscape]
    simp only [Result.andThen]
    rw [Oper.upon_value]
    go_wp2_with fail
    rw [Lib.run_from_unsafe w ⟨b, 0, none⟩ (u := 56) (by kernel_rfl) (by kernel_rfl) hj hsh lies_writer]
    simp only [Result.andThen]
    rw [Oper.upon_value]
    go_wp2_with fail
    go_end0
    have hf : Frm (One b) w (w.setCell ⟨b, 0, none⟩ (.pointer (some ⟨b, 0, none⟩))) := frmOne
    have hW := HH.out
    exact ⟨rfl, ⟨⟨_, World.cell?_setCell_same _ _ _ hp, Or.inr rfl⟩, (World.cell?_setCell_other _ _ _ _ (by simp)).trans hW.c1, fun j => (World.frozen?_setCell _ _ _ _).trans (hW.f j), shape_set.trans hsh, hf.row hW.row (fun k hk e => hW.apart (hk.trans (congrArg some e))), hW.apart⟩, hf, by simp [World.setCell]⟩
  · go_enter Tryd.func39, Tryd.ntmps39
    go_wp2_with fail
    rw [Lib.run_neq_ptr_same w ⟨b, 0, none⟩ (te := 56) (by kernel_rfl) hj]
    simp only [Result.andThen]
    rw [Oper.upon_value]
    go_wp2_with fail
    go_end0
    exact ⟨rfl, HH.out, Frm.refl _ _, rfl⟩
/-- what an append and the store behind it leave -/
theorem wrote_done {b : Nat} {w w1 w2 : World} {v v1 : Value} {l l1 : List UInt8} (hc : Frm (One b) w w1) (h : Wri w1 b v l) (hf : Frm (Own v) w1 w2)
    (hown : w2.ownsRow (b + 1) 5 1 v1 l1.length (bytesV l1)) (hv : v1.ownBlock = v.ownBlock ∨ ∃ k, v1.ownBlock = some k ∧ w1.heap.size ≤ k) :
    Wrote b w v l1 v1 (w2.setCell ⟨b, 1, none⟩ v1) := by
  have hb := h.lt
  have hap : ¬ Own v b := h.apart
  have hap1 : v1.ownBlock ≠ some b := by
    rcases hv with hv | ⟨k, hv, hk⟩
    · rw [hv]; exact h.apart
    · rw [hv]; simp; omega
  obtain ⟨p, hp, hpp⟩ := h.c0
  have k0 := (hf.cell (p := ⟨b, 0, none⟩) hb hap).trans hp
  have k1 := (hf.cell (p := ⟨b, 1, none⟩) hb hap).trans h.c1
  have fr : Frm (One b) w2 (w2.setCell ⟨b, 1, none⟩ v1) := frmOne
  refine ⟨⟨⟨p, (World.cell?_setCell_other _ _ _ _ (by simp)).trans k0, hpp⟩, World.cell?_setCell_same _ _ _ k1, fun j => ?_, ?_, fr.row hown (fun k hk e => hap1 (hk.trans (congrArg some e))), hap1⟩, ?_, ?_⟩
  · exact (World.frozen?_setCell _ _ _ _).trans ((hf.frozen (p := ⟨b, j, none⟩) hb hap).trans (h.f j))
  · exact shape_set.trans ((shape_frm hf hb hap).trans h.sh)
  · exact (hc.trans hf (U := WrS b v) (fun _ _ e => Or.inl e) (fun _ _ e => Or.inr e)).trans fr (fun _ _ e => e) (fun _ _ e => Or.inl e)
  · rcases hv with hv | ⟨k, hv, hk⟩
    · exact Or.inl hv
    · exact Or.inr ⟨k, hv, Nat.le_trans hc.size hk⟩
set_option maxRecDepth 100000 in
theorem wstr_any (b : Nat) (v : Value) (l s : List UInt8) (w : World) (h : Wri w b v l) (hl : l.length + s.length ≤ 140737488355328) :
    Calls Tryd.prog 13 #[.pointer (some ⟨b, 0, none⟩), .string ⟨s.toArray⟩] w (WroteP b w v (l ++ s) (.tuple #[.int .i64 (s.length : Int), .nilIface])) := by
  have HC := hid (check_any b v l w h)
  obtain ⟨i0, hi, hz0, hz1, hz2⟩ := info_parts info_u8
  clear h
  go_enter Tryd.func13, Tryd.ntmps13
  go_wp2_with fail
  refine HC.out.mono ?_
  rintro e w1 ⟨rfl, hW, hF, -⟩
  have c1 := hW.c1
  have hb := hW.lt
  have hap : ¬ Own v b := hW.apart
  go_wp2_with (at_builtin; refine wpList_append_str _ rfl _ _ 54 9 rfl (b + 1) 5 i0 Tryd.underlying54 Tryd.underlying9 hi hz0 hz1 hz2 v l.length l rfl hW.row s rfl hl (by omega) ?_; intro v1 w2 hown hf hv; obtain ⟨ao, cp, rfl⟩ := ownsRow_shape hown; have k1 := (hf.cell (p := ⟨b, 1, none⟩) hb hap).trans c1; have kf := (hf.frozen (p := ⟨b, 1, none⟩) hb hap).trans (hW.f 1))
  refine bodyPost_ret (v := .tuple #[.int .i64 (s.length : Int), .nilIface]) (by simp [results, Tryd.results13, go_sem]) rfl ⟨rfl, _, wrote_done hF hW hf (by rw [List.length_append]; exact hown) ?_⟩
  rcases hv with e | e
  · exact Or.inl e
  · exact Or.inr ⟨_, e, Nat.le_refl _⟩
set_option maxRecDepth 100000 in
theorem wbyte_any (b : Nat) (v : Value) (l : List UInt8) (c : UInt8) (w : World) (h : Wri w b v l) (hl : l.length + 1 ≤ 140737488355328) :
    Calls Tryd.prog 41 #[.pointer (some ⟨b, 0, none⟩), .int .u8 (c.toNat : Int)] w (WroteP b w v (l ++ [c]) .nilIface) := by
  have HC := hid (check_any b v l w h)
  obtain ⟨i0, hi, hz0, hz1, hz2⟩ := info_parts info_u8
  clear h
  go_enter Tryd.func41, Tryd.ntmps41
  go_wp2_with fail
  refine HC.out.mono ?_
  rintro e w1 ⟨rfl, hW, hF, -⟩
  have c1 := hW.c1
  have hb := hW.lt
  have hap : ¬ Own v b := hW.apart
  go_wp2_with (at_builtin; refine wpList_push1 _ rfl _ _ 54 rfl (b + 1) 5 i0 _ 1 Tryd.underlying54 hi hz0 hz1 hz2 rfl v l.length (bytesV l) rfl hW.row _ rfl rfl (by omega) hl (by omega) ?_; intro v1 w2 hown hf hv _; obtain ⟨ao, cp, rfl⟩ := ownsRow_shape hown; have k1 := (hf.cell (p := ⟨b, 1, none⟩) hb hap).trans c1; have kf := (hf.frozen (p := ⟨b, 1, none⟩) hb hap).trans (hW.f 1))
  refine bodyPost_ret (v := .nilIface) (by simp [results, Tryd.results41, go_sem]) rfl ⟨rfl, _, wrote_done hF hW hf (by rw [List.length_append, bytesV_append]; exact hown) hv⟩
theorem frm_freeze {S : Nat → Prop} {w w1 : World} {g n : Nat} (h : Frm S w w1) (hg : g < w.heap.size → S g) : Frm S w (w1.freeze ⟨g, 0, none⟩ n) := by
  unfold World.freeze
  split
  · exact h
  · refine ⟨h.os, h.tape, h.output, by simpa using h.size, fun i hi hS => ?_⟩
    show (w1.heap.modify g _)[i]? = _
    rw [Array.getElem?_modify, if_neg (fun e => by have e : g = i := e; subst e; exact hS (hg hi))]
    exact h.block i hi hS
set_option maxRecDepth 100000 in
set_option maxHeartbeats 1000000 in
/-- what it holds, as a string -/
theorem wtext_any (b : Nat) (v : Value) (l : List UInt8) (w : World) (h : Wri w b v l) (h0 : l ≠ []) :
    Calls Tryd.prog 15 #[.pointer (some ⟨b, 0, none⟩)] w fun e w' => e = .returned (.string ⟨l.toArray⟩) ∧ Frm (WrS b v) w w' := by
  have hl0 : l.length ≠ 0 := by simpa using h0
  obtain ⟨i0, hi, hz0, hz1, hz2⟩ := info_parts info_u8
  have hown := h.row
  obtain ⟨g, cap, cur, rfl, _, hg, hnc, hcm, hcs, htake⟩ : ∃ g cap cur, v = .slice (some ⟨g, 0, none⟩) l.length cap ∧ b + 1 ≤ g ∧ w.heap[g]? = some (.cells cur 5 (0, 0)) ∧ l.length ≤ cap ∧ cap ≤ maxLen ∧ cur.size = cap * 1 ∧ cur.toList.take (l.length * 1) = bytesV l := by
    rcases hown.2 with ⟨_, hz⟩ | ⟨g, cap, cur, hv, r⟩
    · exact absurd hz hl0
    · exact ⟨g, cap, cur, hv, r⟩
  have c1 : w.drew.cell? ⟨b, 1, none⟩ = some (.slice (some ⟨g, 0, none⟩) l.length cap) := h.c1
  have hSD : (Builtin.unsafeSliceData_ #[54] 93 #[.slice (some ⟨g, 0, none⟩) l.length cap]).run Tryd.prog w.drew = .ok (.pointer (some ⟨g, 0, none⟩)) w.drew :=
    Lib.run_unsafeSliceData_row _ _ _ _ _ _ (by omega)
  have hUS : (Builtin.unsafeString_ #[93, 3] 9 #[.pointer (some ⟨g, 0, none⟩), .int .i64 l.length]).run Tryd.prog w.drew = .ok (.string ⟨l.toArray⟩) (w.drew.freeze ⟨g, 0, none⟩ l.length) := by
    refine Lib.run_unsafeString_row w.drew 93 3 9 5 (by kernel_rfl) (by kernel_rfl) g cur.size (by have hg' : w.drew.heap[g]? = some (.cells cur 5 (0, 0)) := hg; simp [World.shape?, hg']) l h0 (by omega) (by unfold maxLen at hcm; omega) ?_
    intro j x hx
    have := hown.cellAt (g := g) (cap := cap) j (by have := List.getElem?_eq_some_iff.1 hx; obtain ⟨hj, _⟩ := this; omega)
    rw [show (⟨g, 0, none⟩ : Addr).add j = ⟨g, j, none⟩ by rw [Addr.add_lit]; simp]
    simpa [bytesV, hx] using this
  have HF : Hid (Frm (WrS b (.slice (some ⟨g, 0, none⟩) l.length cap)) w (w.drew.freeze ⟨g, 0, none⟩ l.length)) := hid (frm_freeze (Frm.drew (Frm.refl _ w)) (fun _ => Or.inr rfl))
  clear h hown htake hg
  go_enter Tryd.func15, Tryd.ntmps15
  go_wp2_with fail
  go_region
  all_goals (go_wp2_with fail; go_ret; exact ⟨rfl, HF.out⟩)
end Go.Proofs.YtebocnpbiiejmaaDoor

namespace Go.Proofs.YtebocnpbiiejmaaDoor
open Go.RowKit
section
variable {P : Program} (W : World) {ops : Array Oper} {rest : List Oper} {o : Oper} {a : Act} {Q : Exit → Act → World → Prop}
theorem src_bytes {t e : TypeId} (ht : P.underlying t = some (.slice e)) (sl : List UInt8) : Src P 1 t (.slice (some ⟨W.heap.size, 0, none⟩) sl.length sl.length) sl.length (bytesV sl) (W.alloc (.cells (bytesV sl).toArray e)) :=
  Src.ofSlice _ ht ⟨W.heap.size, 0, none⟩ sl.length sl.length (bytesV sl) (by simp [bytesV]) (fun j u hj => by
    have : (⟨W.heap.size, 0, none⟩ : Addr).add j = ⟨W.heap.size, j, none⟩ := by rw [Addr.add_lit]; simp
    rw [this, World.cell?_alloc_at _ _ _ _ rfl]
    simpa using hj) (bytesV_one sl)
theorem src_bytesH {t e : TypeId} (ht : P.underlying t = some (.slice e)) (sl : List UInt8) {W' : World} (hW : W'.heap = (W.alloc (.cells (bytesV sl).toArray e)).heap) : Src P 1 t (.slice (some ⟨W.heap.size, 0, none⟩) sl.length sl.length) sl.length (bytesV sl) W' :=
  Src.ofSlice _ ht ⟨W.heap.size, 0, none⟩ sl.length sl.length (bytesV sl) (by simp [bytesV]) (fun j u hj => by
    have : (⟨W.heap.size, 0, none⟩ : Addr).add j = ⟨W.heap.size, j, none⟩ := by rw [Addr.add_lit]; simp
    have e2 : W'.cell? ⟨W.heap.size, j, none⟩ = (W.alloc (.cells (bytesV sl).toArray e)).cell? ⟨W.heap.size, j, none⟩ := by
      unfold World.cell?
      rw [hW]
    rw [this, e2, World.cell?_alloc_at _ _ _ _ rfl]
    simpa using hj) (bytesV_one sl)
/-- 'append(out, a, b, ..)', single bytes: they lie in the block that was made last. -/
theorem wpList_pushB (hg : o.guard = none) (s x : Operand) (t : TypeId)
    (ho : o.op = .call { callee := .builtin .append, args := #[s, x], argTypes := #[t, t] })
    (base : Nat) (e : TypeId) (i : TypeInfo) (ht : P.underlying t = some (.slice e)) (hi : P.info? e = some i) (hz : i.zero = some (.int .u8 0))
    (hsize : i.size = 1) (hby : i.bytes = 1)
    (v : Value) (n : Nat) (l : List UInt8) (hs : a.eval s = v) (hown : W.ownsRow base e 1 v n (bytesV l))
    (sl : List UInt8) (hx : a.eval x = .slice (some ⟨W.heap.size, 0, none⟩) sl.length sl.length)
    (hbytes : n + sl.length ≤ 140737488355328) (hbase : base ≤ W.heap.size)
    (h : ∀ v' w', w'.ownsRow base e 1 v' (n + sl.length) (bytesV (l ++ sl)) → Frm (Own v) W w' → wpList P ops Q rest (a.put o.dst v') w') : wpList P ops Q (o :: rest) a (W.alloc (.cells (bytesV sl).toArray e)) := by
  refine wpList_append_src (W.alloc (.cells (bytesV sl).toArray e)) hg s x t t ho base e i _ 1 1 ht hi hz hsize hby rfl v n _ hs (hown.alloc _) _ sl.length (bytesV sl) hx
    (src_bytes W ht sl) (by unfold maxLen; omega) (by omega) (by simp; omega) ?_
  intro v' w' h2 h3 _
  exact h v' w' (by rw [bytesV_append]; exact h2) (((Frm.refl _ _).alloc _).then_ h3)
end
theorem and15u (c : UInt8) : bits BinOp.and IntKind.u8 (c.toNat : Int) 15 = ((c.toNat % 16 : Nat) : Int) := by
  have : ∀ j : Fin 256, bits BinOp.and IntKind.u8 (j.val : Int) 15 = ((j.val % 16 : Nat) : Int) := by decide +kernel
  exact this ⟨c.toNat, c.toNat_lt⟩
theorem hexd_get (n : Nat) (h : n < ([48, 49, 50, 51, 52, 53, 54, 55, 56, 57, 97, 98, 99, 100, 101, 102] : List UInt8).length) : Gr.hexd n = ([48, 49, 50, 51, 52, 53, 54, 55, 56, 57, 97, 98, 99, 100, 101, 102] : List UInt8)[n]'h := by
  unfold Gr.hexd Gr.hexes
  rw [List.getD_eq_getElem?_getD, List.getElem?_eq_getElem h]
  rfl
theorem nat_ne {x c : UInt8} (h : ¬ x = c) : ((x.toNat : Int) == (c.toNat : Int)) = false := by
  rw [beq_eq_false_iff_ne]
  intro e
  exact h (UInt8.toNat_inj.1 (by omega))
/-- what is quoted so far -/
def qt (q : UInt8) (s : List UInt8) (k : Nat) : List UInt8 := q :: (s.take k).flatMap (Gr.esc q)
theorem esc_len (q b : UInt8) : (Gr.esc q b).length ≤ 4 := by
  unfold Gr.esc
  repeat (first | (split; try (simp; done)) | simp)
theorem qt_succ (q : UInt8) (s : List UInt8) (k : Nat) (h : k < s.length) : qt q s (k + 1) = qt q s k ++ Gr.esc q s[k] := by
  unfold qt
  rw [List.take_succ_eq_append_getElem h, List.flatMap_append, List.cons_append]
  simp
theorem qt_len (q : UInt8) (s : List UInt8) : ∀ k, k ≤ s.length → (qt q s k).length ≤ 1 + 4 * k := by
  intro k
  induction k with
  | zero => intro _; simp [qt]
  | succ k ih =>
    intro h
    rw [qt_succ q s k (by omega), List.length_append]
    have h1 := ih (by omega)
    have h2 := esc_len q s[k]
    omega
theorem qt_all (q : UInt8) (s : List UInt8) : qt q s s.length ++ [q] = [q] ++ (s.flatMap (Gr.esc q) ++ [q]) := by
  unfold qt
  rw [List.take_length]
  rfl
set_option maxHeartbeats 4000000 in
set_option maxRecDepth 100000 in
theorem quote_any (s : List UInt8) (hs : s.length ≤ 65536) (w : World) :
    Calls Tryd.prog 40 #[.string ⟨s.toArray⟩] w fun e w' => e = .returned (.string ⟨(Gr.quote s).toArray⟩) ∧ Frm No w w' := by
  obtain ⟨G, hG⟩ : ∃ G, Gr.quote s = G := ⟨_, rfl⟩
  rw [hG]
  unfold Gr.quote at hG
  obtain ⟨q, hq⟩ : ∃ q, Gr.quoteOf s = q := ⟨_, rfl⟩
  rw [hq] at hG
  have HG := hid hG
  have HQ := hid hq
  have HS := hid hs
  obtain ⟨i0, hi, hz0, hz1, hz2⟩ := info_parts info_u8
  clear hG hq hs
  go_enter Tryd.func40, Tryd.ntmps40
  go_upto_if 11 with (go_at_call 66; refine (Tryd.strings_Count_one _ _ _).mono ?_; rintro e w' ⟨rfl, rfl⟩)
  go_cut [3] from 12 to 71 (fun q3 wx => q3 = .int .u8 (q.toNat : Int) ∧ wx = w')
  case first =>
    by_cases h : Lib.countByte s 34 < Lib.countByte s 39
    · have hq : q = 34 := by rw [← HQ.out]; exact if_pos h
      subst hq
      go_wp2_with fail
      go_meet
      exact ⟨rfl, rfl⟩
    · have hq : q = 39 := by rw [← HQ.out]; exact if_neg h
      subst hq
      go_wp2_with fail
      go_meet
      exact ⟨rfl, rfl⟩
  case rest =>
    obtain ⟨rfl, rfl⟩ := hcut
    obtain ⟨F, hF⟩ : ∃ F, wc.heap.size = F := ⟨_, rfl⟩
    have hb := box_new hF #[.int .u8 (q.toNat : Int)] 5
    have hrow : (wc.alloc (.cells #[.int .u8 (q.toNat : Int)] 5)).ownsRow F 5 1 (.slice (some ⟨F, 0, none⟩) 1 1) 1 (bytesV [q]) := by
      exact ⟨rfl, .inr ⟨F, 1, #[.int .u8 (q.toNat : Int)], rfl, Nat.le_refl _, by rw [← hF]; exact heap_alloc_new wc _, Nat.le_refl _, by decide, rfl, rfl⟩⟩
    go_upto_region 5 with fail
    try rw [hF]
    generalize wc.alloc (.cells #[.int .u8 (q.toNat : Int)] 5) = W1 at *
    have HF1 := hid hb.1
    have HSZ := hid hb.2.2.2
    have HWC := hid hF
    clear hb hF
    go_wp2_with fail
    go_loopw [4, 16] (fun v i wr => ∃ k : Nat, k ≤ s.length ∧ i = .int .i64 (k : Int) ∧ wr.ownsRow F 5 1 v (qt q s k).length (bytesV (qt q s k)) ∧ Frm No wc wr)
      (fun _ i _ => s.length - (intOf i).toNat)
    case atStart => exact ⟨0, by omega, rfl, hrow, HF1.out⟩
    case round =>
      obtain ⟨k, hk, rfl, hown, hf⟩ := hrel
      have HF := hid hf
      have HOW := hid hown
      obtain ⟨ao, cc, rfl⟩ := ownsRow_shape hown
      have HSZR : Hid (F ≤ wr.heap.size) := hid (by have := hf.size; have := HWC.out; omega)
      by_cases hkl : k < s.length
      · have hkz : (k : Int) < (s.length : Int) := by omega
        have hk6 : k < 65536 := by have := HS.out; omega
        have HLN : Hid ((qt q s k).length ≤ 300000) := hid (by have := qt_len q s k hk; have := HS.out; omega)
        have HSU := hid (qt_succ q s k hkl)
        obtain ⟨x, hx⟩ : ∃ x, s[k] = x := ⟨_, rfl⟩
        rw [hx] at HSU
        have HDN : Hid (∀ (sl : List UInt8) (v1 : Value) (w1 : World), Gr.esc q x = sl → w1.ownsRow F 5 1 v1 ((qt q s k).length + sl.length) (bytesV (qt q s k ++ sl)) → Frm (Own (.slice ao (qt q s k).length cc)) wr w1 → w1.ownsRow F 5 1 v1 (qt q s (k + 1)).length (bytesV (qt q s (k + 1))) ∧ Frm No wc w1) := hid (fun sl v1 w1 he h1 h2 => by
          rw [HSU.out, he, List.length_append]
          exact ⟨h1, HF.out.trans h2 (fun _ _ h => h) (fun i hi e => by have := (HOW.out.lt i e).1; have := HF1.out.size; have := HWC.out; omega)⟩)
        clear hf hown
        by_cases h1 : x = q
        · have e1 : ((x.toNat : Int) == (q.toNat : Int)) = true := by rw [h1, beq_iff_eq]
          have HX1 := hid h1
          clear h1
          have HE : Hid (Gr.esc q x = [92, x]) := hid (by unfold Gr.esc; rw [if_pos (Or.inl HX1.out)])
          go_wp2_with (at_builtin; go_must (refine wpList_pushB _ rfl _ _ 54 rfl F 5 i0 Tryd.underlying54 hi hz0 hz1 hz2 (.slice ao (qt q s k).length cc) (qt q s k).length (qt q s k) rfl HOW.out [92, x] rfl (by have := HLN.out; simp; omega) HSZR.out ?_); intro v1 w1 hown1 hf1)
          obtain ⟨hr, hfw⟩ := HDN.out _ _ _ HE.out hown1 hf1
          exact ⟨⟨k + 1, by omega, by go_num, hr, hfw⟩, by simp [intOf]; omega⟩
        · have e1 : ((x.toNat : Int) == (q.toNat : Int)) = false := nat_ne h1
          by_cases h2 : x = 92
          · have e2 : ((x.toNat : Int) == 92) = true := by rw [h2]; rfl
            have HX1 := hid h2
            clear h1 h2
            have HE : Hid (Gr.esc q x = [92, x]) := hid (by unfold Gr.esc; rw [if_pos (Or.inr HX1.out)])
            go_wp2_with (at_builtin; go_must (refine wpList_pushB _ rfl _ _ 54 rfl F 5 i0 Tryd.underlying54 hi hz0 hz1 hz2 (.slice ao (qt q s k).length cc) (qt q s k).length (qt q s k) rfl HOW.out [92, x] rfl (by have := HLN.out; simp; omega) HSZR.out ?_); intro v1 w1 hown1 hf1)
            obtain ⟨hr, hfw⟩ := HDN.out _ _ _ HE.out hown1 hf1
            exact ⟨⟨k + 1, by omega, by go_num, hr, hfw⟩, by simp [intOf]; omega⟩
          · have e2 : ((x.toNat : Int) == 92) = false := nat_ne (c := 92) h2
            have HX12 : Hid (¬ (x = q ∨ x = 92)) := hid (fun e => e.elim h1 h2)
            clear h1 h2
            by_cases h3 : x = 10
            · have e3 : ((x.toNat : Int) == 10) = true := by rw [h3]; rfl
              have HX1 := hid h3
              clear h3
              have HE : Hid (Gr.esc q x = [92, 110]) := hid (by unfold Gr.esc; rw [if_neg HX12.out, if_pos HX1.out])
              go_wp2_with (at_builtin; go_must (refine wpList_pushB _ rfl _ _ 54 rfl F 5 i0 Tryd.underlying54 hi hz0 hz1 hz2 (.slice ao (qt q s k).length cc) (qt q s k).length (qt q s k) rfl HOW.out [92, 110] rfl (by have := HLN.out; simp; omega) HSZR.out ?_); intro v1 w1 hown1 hf1)
              obtain ⟨hr, hfw⟩ := HDN.out _ _ _ HE.out hown1 hf1
              exact ⟨⟨k + 1, by omega, by go_num, hr, hfw⟩, by simp [intOf]; omega⟩
            · have e3 : ((x.toNat : Int) == 10) = false := nat_ne (c := 10) h3
              have HX3 := hid h3
              clear h3
              by_cases h4 : x = 9
              · have e4 : ((x.toNat : Int) == 9) = true := by rw [h4]; rfl
                have HX1 := hid h4
                clear h4
                have HE : Hid (Gr.esc q x = [92, 116]) := hid (by unfold Gr.esc; rw [if_neg HX12.out, if_neg HX3.out, if_pos HX1.out])
                go_wp2_with (at_builtin; go_must (refine wpList_pushB _ rfl _ _ 54 rfl F 5 i0 Tryd.underlying54 hi hz0 hz1 hz2 (.slice ao (qt q s k).length cc) (qt q s k).length (qt q s k) rfl HOW.out [92, 116] rfl (by have := HLN.out; simp; omega) HSZR.out ?_); intro v1 w1 hown1 hf1)
                obtain ⟨hr, hfw⟩ := HDN.out _ _ _ HE.out hown1 hf1
                exact ⟨⟨k + 1, by omega, by go_num, hr, hfw⟩, by simp [intOf]; omega⟩
              · have e4 : ((x.toNat : Int) == 9) = false := nat_ne (c := 9) h4
                have HX4 := hid h4
                clear h4
                have q1 : (x < 32) ↔ ((x.toNat : Int) < 32) := by rw [UInt8.lt_iff_toNat_lt]; show (x.toNat < 32) ↔ _; omega
                have q2 : (126 < x) ↔ ((126 : Int) < (x.toNat : Int)) := by rw [UInt8.lt_iff_toNat_lt]; show (126 < x.toNat) ↔ _; omega
                have HEX : Hid (x < 32 ∨ 126 < x → Gr.esc q x = [92, 120, Gr.hexd (x.toNat / 16), Gr.hexd (x.toNat % 16)]) := hid (fun h5 => by unfold Gr.esc; rw [if_neg HX12.out, if_neg HX3.out, if_neg HX4.out, if_pos h5])
                by_cases h5a : (x.toNat : Int) < 32
                · have HE := hid (HEX.out (Or.inl (q1.2 h5a)))
                  clear q1 q2 HEX
                  have ha := and15u x
                  obtain ⟨lo, hlo⟩ : ∃ lo, x.toNat % 16 = lo := ⟨_, rfl⟩
                  rw [hlo] at ha HE
                  have hl16 : (lo : Int) < 16 := by omega
                  have hh16 : (x.toNat : Int) / 16 < 16 := by have := x.toNat_lt; omega
                  have hh0 : (0 : Int) ≤ (x.toNat : Int) / 16 := by omega
                  have HLO := hid hlo
                  clear hlo
                  obtain ⟨ca, hca⟩ : ∃ c : UInt8, ([48, 49, 50, 51, 52, 53, 54, 55, 56, 57, 97, 98, 99, 100, 101, 102] : List UInt8)[((x.toNat : Int) / 16).toNat]'(by have := x.toNat_lt; show _ < 16; omega) = c := ⟨_, rfl⟩
                  obtain ⟨cb, hcb⟩ : ∃ c : UInt8, ([48, 49, 50, 51, 52, 53, 54, 55, 56, 57, 97, 98, 99, 100, 101, 102] : List UInt8)[lo]'(by show _ < 16; omega) = c := ⟨_, rfl⟩
                  have HE2 : Hid (Gr.esc q x = [92, 120, ca, cb]) := hid (by
                    have ga : Gr.hexd (x.toNat / 16) = ca := by rw [← hca, show x.toNat / 16 = ((x.toNat : Int) / 16).toNat by omega]; exact hexd_get _ _
                    have gb : Gr.hexd lo = cb := by rw [← hcb]; exact hexd_get _ _
                    rw [HE.out, ga, gb])
                  have HROW : Hid (∀ o, ((wr.alloc o).drew).ownsRow F 5 1 (.slice ao (qt q s k).length cc) (qt q s k).length (bytesV (qt q s k))) := hid (fun o => HOW.out.alloc o)
                  have HSRC : Hid (Src Tryd.prog 1 54 (.slice (some ⟨wr.heap.size, 0, none⟩) 4 4) 4 (bytesV [92, 120, ca, cb]) (wr.alloc (.cells #[.int .u8 92, .int .u8 120, .int .u8 (ca.toNat : Int), .int .u8 (cb.toNat : Int)] 5)).drew) := hid (src_bytesH wr Tryd.underlying54 [92, 120, ca, cb] rfl)
                  have HSZ2 : Hid (∀ o, F ≤ ((wr.alloc o).drew).heap.size) := hid (fun o => by have h := HSZR.out; show F ≤ (wr.alloc o).heap.size; rw [World.size_alloc]; omega)
                  go_upto_region 17 with fail
                  go_region_law (refine step_append_own rfl (.tmp 57) (.tmp 64) 54 54 rfl F 5 i0 _ 1 1 Tryd.underlying54 hi hz0 hz1 hz2 rfl (.slice ao (qt q s k).length cc) (qt q s k).length (bytesV (qt q s k)) (by simp [Act.eval]) (HROW.out _) (.slice (some ⟨wr.heap.size, 0, none⟩) 4 4) 4 (bytesV [92, 120, ca, cb]) (by simp [Act.eval]) HSRC.out (by have := HLN.out; unfold maxLen; omega) (by have := HLN.out; omega) (HSZ2.out _) ?_; intro v1 w1 hown1 hf1 hv1; obtain ⟨ao1, c1, rfl⟩ := ownsRow_shape hown1)
                  all_goals
                    obtain ⟨hr, hfw⟩ := HDN.out _ _ _ HE2.out (by rw [bytesV_append]; exact hown1) (Frm.trans (Frm.drew (Frm.alloc (Frm.refl (Own (.slice ao (qt q s k).length cc)) wr) _)) hf1 (fun _ _ h => h) (fun _ _ h => h))
                    go_wp2_with fail
                    exact ⟨⟨k + 1, by omega, by go_num, hr, hfw⟩, by simp [intOf]; omega⟩
                by_cases h5b : (126 : Int) < (x.toNat : Int)
                · have HE := hid (HEX.out (Or.inr (q2.2 h5b)))
                  clear q1 q2 HEX
                  have ha := and15u x
                  obtain ⟨lo, hlo⟩ : ∃ lo, x.toNat % 16 = lo := ⟨_, rfl⟩
                  rw [hlo] at ha HE
                  have hl16 : (lo : Int) < 16 := by omega
                  have hh16 : (x.toNat : Int) / 16 < 16 := by have := x.toNat_lt; omega
                  have hh0 : (0 : Int) ≤ (x.toNat : Int) / 16 := by omega
                  have HLO := hid hlo
                  clear hlo
                  obtain ⟨ca, hca⟩ : ∃ c : UInt8, ([48, 49, 50, 51, 52, 53, 54, 55, 56, 57, 97, 98, 99, 100, 101, 102] : List UInt8)[((x.toNat : Int) / 16).toNat]'(by have := x.toNat_lt; show _ < 16; omega) = c := ⟨_, rfl⟩
                  obtain ⟨cb, hcb⟩ : ∃ c : UInt8, ([48, 49, 50, 51, 52, 53, 54, 55, 56, 57, 97, 98, 99, 100, 101, 102] : List UInt8)[lo]'(by show _ < 16; omega) = c := ⟨_, rfl⟩
                  have HE2 : Hid (Gr.esc q x = [92, 120, ca, cb]) := hid (by
                    have ga : Gr.hexd (x.toNat / 16) = ca := by rw [← hca, show x.toNat / 16 = ((x.toNat : Int) / 16).toNat by omega]; exact hexd_get _ _
                    have gb : Gr.hexd lo = cb := by rw [← hcb]; exact hexd_get _ _
                    rw [HE.out, ga, gb])
                  have HROW : Hid (∀ o, ((wr.alloc o).drew).ownsRow F 5 1 (.slice ao (qt q s k).length cc) (qt q s k).length (bytesV (qt q s k))) := hid (fun o => HOW.out.alloc o)
                  have HSRC : Hid (Src Tryd.prog 1 54 (.slice (some ⟨wr.heap.size, 0, none⟩) 4 4) 4 (bytesV [92, 120, ca, cb]) (wr.alloc (.cells #[.int .u8 92, .int .u8 120, .int .u8 (ca.toNat : Int), .int .u8 (cb.toNat : Int)] 5)).drew) := hid (src_bytesH wr Tryd.underlying54 [92, 120, ca, cb] rfl)
                  have HSZ2 : Hid (∀ o, F ≤ ((wr.alloc o).drew).heap.size) := hid (fun o => by have h := HSZR.out; show F ≤ (wr.alloc o).heap.size; rw [World.size_alloc]; omega)
                  go_upto_region 17 with fail
                  go_region_law (refine step_append_own rfl (.tmp 57) (.tmp 64) 54 54 rfl F 5 i0 _ 1 1 Tryd.underlying54 hi hz0 hz1 hz2 rfl (.slice ao (qt q s k).length cc) (qt q s k).length (bytesV (qt q s k)) (by simp [Act.eval]) (HROW.out _) (.slice (some ⟨wr.heap.size, 0, none⟩) 4 4) 4 (bytesV [92, 120, ca, cb]) (by simp [Act.eval]) HSRC.out (by have := HLN.out; unfold maxLen; omega) (by have := HLN.out; omega) (HSZ2.out _) ?_; intro v1 w1 hown1 hf1 hv1; obtain ⟨ao1, c1, rfl⟩ := ownsRow_shape hown1)
                  all_goals
                    obtain ⟨hr, hfw⟩ := HDN.out _ _ _ HE2.out (by rw [bytesV_append]; exact hown1) (Frm.trans (Frm.drew (Frm.alloc (Frm.refl (Own (.slice ao (qt q s k).length cc)) wr) _)) hf1 (fun _ _ h => h) (fun _ _ h => h))
                    go_wp2_with fail
                    exact ⟨⟨k + 1, by omega, by go_num, hr, hfw⟩, by simp [intOf]; omega⟩
                have h5 : ¬ (x < 32 ∨ 126 < x) := fun e => e.elim (fun e => h5a (q1.1 e)) (fun e => h5b (q2.1 e))
                · have HX5 := hid h5
                  clear HEX
                  clear h5 q1 q2
                  have HE : Hid (Gr.esc q x = [x]) := hid (by unfold Gr.esc; rw [if_neg HX12.out, if_neg HX3.out, if_neg HX4.out, if_neg HX5.out])
                  go_wp2_with (at_builtin; go_must (refine wpList_pushB _ rfl _ _ 54 rfl F 5 i0 Tryd.underlying54 hi hz0 hz1 hz2 (.slice ao (qt q s k).length cc) (qt q s k).length (qt q s k) rfl HOW.out [x] rfl (by have := HLN.out; simp; omega) HSZR.out ?_); intro v1 w1 hown1 hf1)
                  obtain ⟨hr, hfw⟩ := HDN.out _ _ _ HE.out hown1 hf1
                  exact ⟨⟨k + 1, by omega, by go_num, hr, hfw⟩, by simp [intOf]; omega⟩
      · obtain rfl : k = s.length := by omega
        have hpz : ¬ (s.length : Int) < (s.length : Int) := by omega
        have HLN : Hid ((qt q s s.length).length ≤ 300000) := hid (by have := qt_len q s s.length hk; have := HS.out; omega)
        clear hf hown
        go_wp2_with (at_builtin; go_must (refine wpList_pushB _ rfl _ _ 54 rfl F 5 i0 Tryd.underlying54 hi hz0 hz1 hz2 (.slice ao (qt q s s.length).length cc) (qt q s s.length).length (qt q s s.length) rfl HOW.out [q] rfl (by have := HLN.out; simp; omega) HSZR.out ?_); intro v1 w1 hown1 hf1; have hcv := run_convert_own (src := 54) (dst := 9) Tryd.underlying54 Tryd.underlying5 Tryd.underlying9 hown1)
        have hGe : G = qt q s s.length ++ [q] := by rw [← HG.out]; exact (qt_all q s).symm
        subst hGe
        go_ret
        exact ⟨rfl, HF.out.trans hf1 (fun _ _ h => h) (fun i hi e => by have := (HOW.out.lt i e).1; have := HWC.out; omega)⟩
end Go.Proofs.YtebocnpbiiejmaaDoor
