/- The fields of a message, read, kind by kind. Printed by a program (msgr3.py). -/
import Derived.Test.YtaejcejfpcjifaaDoorMsgR2
import Derived.Test.YtaejcejfpcjifaaDoorMsgW3
namespace Go.Proofs.YtaejcejfpcjifaaDoor
open Go.RowKit
open Msg

theorem ints_drop (zs : List Int) (k : Nat) (h : k < zs.length) (r : List UInt8) : Oct.ints (zs.drop k) ++ r = Oct.enc zs[k] ++ (Oct.ints (zs.drop (k + 1)) ++ r) := by
  rw [Oct.ints, List.drop_eq_getElem_cons h, List.flatMap_cons, List.append_assoc]
  rfl
theorem nums_set (zs : List Int) (k : Nat) (h : k < zs.length) : (intsV (zs.take k) ++ List.replicate (zs.length - k) (Value.int .i64 0)).set k (.int .i64 zs[k]) = intsV (zs.take (k + 1)) ++ List.replicate (zs.length - (k + 1)) (Value.int .i64 0) := by
  have hl : (intsV (zs.take k)).length = k := by simp [intsV]; omega
  rw [List.set_append_right _ _ (by omega), hl, Nat.sub_self]
  obtain ⟨d, hd⟩ : ∃ d, zs.length - k = d + 1 := ⟨zs.length - k - 1, by omega⟩
  have hd' : zs.length - (k + 1) = d := by omega
  rw [hd, hd', List.replicate_succ, List.set_cons_zero, List.take_succ_eq_append_getElem h]
  simp only [intsV, List.map_append, List.map_cons, List.map_nil, List.append_assoc, List.cons_append, List.nil_append]
theorem BC.rd {w : World} {kb : Nat} {zs : List Int} {c : Nat} (h : BC w kb (intsV zs)) : Rd w (.slice (some ⟨kb, 0, none⟩) zs.length c) zs.length 1 (intsV zs) :=
  ⟨by simp [intsV], .inr ⟨kb, 0, c, rfl, fun j _ => by rw [Nat.zero_add]; exact h.cell j⟩⟩
theorem BC.ents {w : World} {B : Nat} {x : Ent} {c : Nat} (h : BC w B (entV x)) : RdL w (.slice (some ⟨B, 0, none⟩) 1 c) 3 entV [x] := by
  refine ⟨.inr ⟨B, 0, c, rfl, fun i hi j hj => ?_⟩⟩
  have : i = 0 := by simp at hi; omega
  subst this
  have := h.cell j
  simpa using this
theorem entV_len (x : Ent) : (entV x).length = 3 := rfl
/-- What reading all fields leaves. -/
def RMA (w0 : World) (rb ib xb kb : Nat) (r : List UInt8) (m : Ms) (kv : Value) (e : Ending) (w' : World) : Prop :=
  e = .returned (.tuple #[]) ∧ ∃ ev, RM w0 w' w' rb ib xb kb r (msL m kv ev) ∧ RdL w' ev 3 entV m.entries ∧ (∀ k, ev.ownBlock = some k → w0.heap.size ≤ k) ∧ Rd w' kv m.known.length 1 (intsV m.known)
theorem made_bc (w : World) : BC (w.alloc (.cells #[.int .i64 0, .int .i64 0, .string ByteArray.empty] 50)) w.heap.size [.int .i64 0, .int .i64 0, .string ByteArray.empty] := BC.new w [.int .i64 0, .int .i64 0, .string ByteArray.empty] _

set_option maxRecDepth 100000 in
set_option maxHeartbeats 2000000 in
theorem RM.views2 {w0 wS w : World} {rb ib xb kb : Nat} {r : List UInt8} {c1 c2 c3 c4 c5 c6 c7 c8 c9 c10 c11 c12 c13 c14 : Value} (from_ born : Int) (known : List Int) (view last op commit client number nonce : Int) (text : List UInt8) (full : Bool) (base : Int) (state : List UInt8) (entries : List Ent) (x : Ent) (hx : entG x = true) (hW : WOk ⟨2, from_, born, known, view, last, op, commit, client, number, nonce, text, full, base, state, entries⟩) (h : RM w0 wS w rb ib xb kb (Oct.enc view ++ (Oct.enc op ++ (Oct.enc commit ++ (entB x ++ (r))))) [.int .i64 2, c1, c2, c3, c4, c5, c6, c7, c8, c9, c10, c11, c12, c13, c14, .slice none 0 0]) :
    Calls Tryd.prog 41 #[.pointer (some ⟨xb, 0, none⟩), .pointer (some ⟨rb, 0, none⟩)] w fun e w' => e = .returned (.tuple #[]) ∧ ∃ ev, RM w0 wS w' rb ib xb kb r [.int .i64 2, c1, c2, c3, .int .i64 view, c5, .int .i64 op, .int .i64 commit, c8, c9, c10, c11, c12, c13, c14, ev] ∧ RdL w' ev 3 entV [x] ∧ (∀ g, ev.ownBlock = some g → wS.heap.size ≤ g) := by
  have q0 := h.x.cell
  have hmk : ∀ w, (Instr.makeSlice 29 (.int .i64 1) (.int .i64 1)).run Tryd.prog w = .ok (.slice (some ⟨w.heap.size, 0, none⟩) 1 1) (w.alloc (.cells #[.int .i64 0, .int .i64 0, .string ByteArray.empty] 50)) := fun _ => by kernel_rfl
  go_enter Tryd.func41, Tryd.ntmps41
  go_wp2_with fail
  refine (h.num hW.view 4 (by simp)).mono ?_
  rintro e1 w1 ⟨rfl, r1⟩
  have f1 : RM w0 wS w1 rb ib xb kb (Oct.enc op ++ (Oct.enc commit ++ (entB x ++ (r)))) [.int .i64 2, c1, c2, c3, .int .i64 view, c5, c6, c7, c8, c9, c10, c11, c12, c13, c14, .slice none 0 0] := r1
  clear r1 h q0
  have q1 := f1.x.cell
  go_wp2_with fail
  refine (f1.num hW.op 6 (by simp)).mono ?_
  rintro e2 w2 ⟨rfl, r2⟩
  have f2 : RM w0 wS w2 rb ib xb kb (Oct.enc commit ++ (entB x ++ (r))) [.int .i64 2, c1, c2, c3, .int .i64 view, c5, .int .i64 op, c7, c8, c9, c10, c11, c12, c13, c14, .slice none 0 0] := r2
  clear r2 f1 q1
  have q2 := f2.x.cell
  go_wp2_with fail
  refine (f2.num hW.commit 7 (by simp)).mono ?_
  rintro e3 w3 ⟨rfl, r3⟩
  have f3 : RM w0 wS w3 rb ib xb kb (entB x ++ (r)) [.int .i64 2, c1, c2, c3, .int .i64 view, c5, .int .i64 op, .int .i64 commit, c8, c9, c10, c11, c12, c13, c14, .slice none 0 0] := r3
  clear r3 f2 q2
  have q3 := f3.x.cell
  have z15 : w3.cell? ⟨xb, 15, none⟩ = some (.slice none 0 0) := q3 15
  have y15 : w3.frozen? ⟨xb, 15, none⟩ = false := f3.x.fr 15
  have hxl : xb < w3.heap.size := World.block_lt_of_cell? _ _ z15
  have hwz : wS.heap.size ≤ w3.heap.size := f3.mov.size
  have a15 : ∀ o, (w3.alloc o).cell? ⟨xb, 15, none⟩ = some (.slice none 0 0) := fun o => (((Frm.refl No w3).alloc o).cell (p := ⟨xb, 15, none⟩) hxl (fun h => h)).trans z15
  have b15 : ∀ o, (w3.alloc o).frozen? ⟨xb, 15, none⟩ = false := fun o => (((Frm.refl No w3).alloc o).frozen (p := ⟨xb, 15, none⟩) hxl (fun h => h)).trans y15
  have hsz : (w3.setCell ⟨xb, 15, none⟩ (.slice (some ⟨w3.heap.size, 0, none⟩) 1 1)).heap.size = w3.heap.size := by simp
  have HF := hid ((f3.setX 15 (by simp) (.slice (some ⟨w3.heap.size, 0, none⟩) 1 1)).no ((Frm.refl No _).alloc (.cells #[.int .i64 0, .int .i64 0, .string ByteArray.empty] 50)))
  have HB := hid (made_bc (w3.setCell ⟨xb, 15, none⟩ (.slice (some ⟨w3.heap.size, 0, none⟩) 1 1)))
  rw [hsz] at HB
  have HO := hid (HF.out.one HB.out hwz hx)
  have HC := HF.out.x.cell
  go_wp2_with fail
  trace "made"
  refine HO.out.mono ?_
  rintro e9 w9 ⟨rfl, r9, b9, g9⟩
  go_wp2_with fail
  go_end0
  exact ⟨rfl, _, r9, b9.ents, fun g hg => by simp only [Value.ownBlock, Option.some.injEq] at hg; omega⟩

set_option maxRecDepth 100000 in
set_option maxHeartbeats 2000000 in
theorem RM.views3 {w0 wS w : World} {rb ib xb kb : Nat} {r : List UInt8} {c1 c2 c3 c4 c5 c6 c7 c8 c9 c10 c11 c12 c13 c14 c15 : Value} (from_ born : Int) (known : List Int) (view last op commit client number nonce : Int) (text : List UInt8) (full : Bool) (base : Int) (state : List UInt8) (entries : List Ent) (hW : WOk ⟨3, from_, born, known, view, last, op, commit, client, number, nonce, text, full, base, state, entries⟩) (h : RM w0 wS w rb ib xb kb (Oct.enc view ++ (Oct.enc op ++ (r))) [.int .i64 3, c1, c2, c3, c4, c5, c6, c7, c8, c9, c10, c11, c12, c13, c14, c15]) :
    Calls Tryd.prog 41 #[.pointer (some ⟨xb, 0, none⟩), .pointer (some ⟨rb, 0, none⟩)] w fun e w' => e = .returned (.tuple #[]) ∧ RM w0 wS w' rb ib xb kb r [.int .i64 3, c1, c2, c3, .int .i64 view, c5, .int .i64 op, c7, c8, c9, c10, c11, c12, c13, c14, c15] := by
  have q0 := h.x.cell
  go_enter Tryd.func41, Tryd.ntmps41
  go_wp2_with fail
  refine (h.num hW.view 4 (by simp)).mono ?_
  rintro e1 w1 ⟨rfl, r1⟩
  have f1 : RM w0 wS w1 rb ib xb kb (Oct.enc op ++ (r)) [.int .i64 3, c1, c2, c3, .int .i64 view, c5, c6, c7, c8, c9, c10, c11, c12, c13, c14, c15] := r1
  clear r1 h q0
  have q1 := f1.x.cell
  go_wp2_with fail
  refine (f1.num hW.op 6 (by simp)).mono ?_
  rintro e2 w2 ⟨rfl, r2⟩
  have f2 : RM w0 wS w2 rb ib xb kb (r) [.int .i64 3, c1, c2, c3, .int .i64 view, c5, .int .i64 op, c7, c8, c9, c10, c11, c12, c13, c14, c15] := r2
  clear r2 f1 q1
  have q2 := f2.x.cell
  go_wp2_with fail
  go_end0
  exact ⟨rfl, f2⟩

set_option maxRecDepth 100000 in
set_option maxHeartbeats 2000000 in
theorem RM.views5 {w0 wS w : World} {rb ib xb kb : Nat} {r : List UInt8} {c1 c2 c3 c4 c5 c6 c7 c8 c9 c10 c11 c12 c13 c14 c15 : Value} (from_ born : Int) (known : List Int) (view last op commit client number nonce : Int) (text : List UInt8) (full : Bool) (base : Int) (state : List UInt8) (entries : List Ent) (hW : WOk ⟨5, from_, born, known, view, last, op, commit, client, number, nonce, text, full, base, state, entries⟩) (h : RM w0 wS w rb ib xb kb (Oct.enc view ++ (Oct.enc op ++ (Oct.enc commit ++ (r)))) [.int .i64 5, c1, c2, c3, c4, c5, c6, c7, c8, c9, c10, c11, c12, c13, c14, c15]) :
    Calls Tryd.prog 41 #[.pointer (some ⟨xb, 0, none⟩), .pointer (some ⟨rb, 0, none⟩)] w fun e w' => e = .returned (.tuple #[]) ∧ RM w0 wS w' rb ib xb kb r [.int .i64 5, c1, c2, c3, .int .i64 view, c5, .int .i64 op, .int .i64 commit, c8, c9, c10, c11, c12, c13, c14, c15] := by
  have q0 := h.x.cell
  go_enter Tryd.func41, Tryd.ntmps41
  go_wp2_with fail
  refine (h.num hW.view 4 (by simp)).mono ?_
  rintro e1 w1 ⟨rfl, r1⟩
  have f1 : RM w0 wS w1 rb ib xb kb (Oct.enc op ++ (Oct.enc commit ++ (r))) [.int .i64 5, c1, c2, c3, .int .i64 view, c5, c6, c7, c8, c9, c10, c11, c12, c13, c14, c15] := r1
  clear r1 h q0
  have q1 := f1.x.cell
  go_wp2_with fail
  refine (f1.num hW.op 6 (by simp)).mono ?_
  rintro e2 w2 ⟨rfl, r2⟩
  have f2 : RM w0 wS w2 rb ib xb kb (Oct.enc commit ++ (r)) [.int .i64 5, c1, c2, c3, .int .i64 view, c5, .int .i64 op, c7, c8, c9, c10, c11, c12, c13, c14, c15] := r2
  clear r2 f1 q1
  have q2 := f2.x.cell
  go_wp2_with fail
  refine (f2.num hW.commit 7 (by simp)).mono ?_
  rintro e3 w3 ⟨rfl, r3⟩
  have f3 : RM w0 wS w3 rb ib xb kb (r) [.int .i64 5, c1, c2, c3, .int .i64 view, c5, .int .i64 op, .int .i64 commit, c8, c9, c10, c11, c12, c13, c14, c15] := r3
  clear r3 f2 q2
  have q3 := f3.x.cell
  go_wp2_with fail
  go_end0
  exact ⟨rfl, f3⟩

set_option maxRecDepth 100000 in
set_option maxHeartbeats 2000000 in
theorem RM.views6 {w0 wS w : World} {rb ib xb kb : Nat} {r : List UInt8} {c1 c2 c3 c4 c5 c6 c7 c8 c9 c10 c11 c12 c13 c14 c15 : Value} (from_ born : Int) (known : List Int) (view last op commit client number nonce : Int) (text : List UInt8) (full : Bool) (base : Int) (state : List UInt8) (entries : List Ent) (hW : WOk ⟨6, from_, born, known, view, last, op, commit, client, number, nonce, text, full, base, state, entries⟩) (h : RM w0 wS w rb ib xb kb (Oct.enc view ++ (r)) [.int .i64 6, c1, c2, c3, c4, c5, c6, c7, c8, c9, c10, c11, c12, c13, c14, c15]) :
    Calls Tryd.prog 41 #[.pointer (some ⟨xb, 0, none⟩), .pointer (some ⟨rb, 0, none⟩)] w fun e w' => e = .returned (.tuple #[]) ∧ RM w0 wS w' rb ib xb kb r [.int .i64 6, c1, c2, c3, .int .i64 view, c5, c6, c7, c8, c9, c10, c11, c12, c13, c14, c15] := by
  have q0 := h.x.cell
  go_enter Tryd.func41, Tryd.ntmps41
  go_wp2_with fail
  refine (h.num hW.view 4 (by simp)).mono ?_
  rintro e1 w1 ⟨rfl, r1⟩
  have f1 : RM w0 wS w1 rb ib xb kb (r) [.int .i64 6, c1, c2, c3, .int .i64 view, c5, c6, c7, c8, c9, c10, c11, c12, c13, c14, c15] := r1
  clear r1 h q0
  have q1 := f1.x.cell
  go_wp2_with fail
  go_end0
  exact ⟨rfl, f1⟩

set_option maxRecDepth 100000 in
set_option maxHeartbeats 2000000 in
theorem RM.views7 {w0 wS w : World} {rb ib xb kb : Nat} {r : List UInt8} {c1 c2 c3 c4 c5 c6 c7 c8 c9 c10 c11 c12 c13 c14 c15 : Value} (from_ born : Int) (known : List Int) (view last op commit client number nonce : Int) (text : List UInt8) (full : Bool) (base : Int) (state : List UInt8) (entries : List Ent) (hW : WOk ⟨7, from_, born, known, view, last, op, commit, client, number, nonce, text, full, base, state, entries⟩) (h : RM w0 wS w rb ib xb kb (Oct.enc view ++ (Oct.enc last ++ (Oct.enc op ++ (Oct.enc commit ++ (r))))) [.int .i64 7, c1, c2, c3, c4, c5, c6, c7, c8, c9, c10, c11, c12, c13, c14, c15]) :
    Calls Tryd.prog 41 #[.pointer (some ⟨xb, 0, none⟩), .pointer (some ⟨rb, 0, none⟩)] w fun e w' => e = .returned (.tuple #[]) ∧ RM w0 wS w' rb ib xb kb r [.int .i64 7, c1, c2, c3, .int .i64 view, .int .i64 last, .int .i64 op, .int .i64 commit, c8, c9, c10, c11, c12, c13, c14, c15] := by
  have q0 := h.x.cell
  go_enter Tryd.func41, Tryd.ntmps41
  go_wp2_with fail
  refine (h.num hW.view 4 (by simp)).mono ?_
  rintro e1 w1 ⟨rfl, r1⟩
  have f1 : RM w0 wS w1 rb ib xb kb (Oct.enc last ++ (Oct.enc op ++ (Oct.enc commit ++ (r)))) [.int .i64 7, c1, c2, c3, .int .i64 view, c5, c6, c7, c8, c9, c10, c11, c12, c13, c14, c15] := r1
  clear r1 h q0
  have q1 := f1.x.cell
  go_wp2_with fail
  refine (f1.num hW.last 5 (by simp)).mono ?_
  rintro e2 w2 ⟨rfl, r2⟩
  have f2 : RM w0 wS w2 rb ib xb kb (Oct.enc op ++ (Oct.enc commit ++ (r))) [.int .i64 7, c1, c2, c3, .int .i64 view, .int .i64 last, c6, c7, c8, c9, c10, c11, c12, c13, c14, c15] := r2
  clear r2 f1 q1
  have q2 := f2.x.cell
  go_wp2_with fail
  refine (f2.num hW.op 6 (by simp)).mono ?_
  rintro e3 w3 ⟨rfl, r3⟩
  have f3 : RM w0 wS w3 rb ib xb kb (Oct.enc commit ++ (r)) [.int .i64 7, c1, c2, c3, .int .i64 view, .int .i64 last, .int .i64 op, c7, c8, c9, c10, c11, c12, c13, c14, c15] := r3
  clear r3 f2 q2
  have q3 := f3.x.cell
  go_wp2_with fail
  refine (f3.num hW.commit 7 (by simp)).mono ?_
  rintro e4 w4 ⟨rfl, r4⟩
  have f4 : RM w0 wS w4 rb ib xb kb (r) [.int .i64 7, c1, c2, c3, .int .i64 view, .int .i64 last, .int .i64 op, .int .i64 commit, c8, c9, c10, c11, c12, c13, c14, c15] := r4
  clear r4 f3 q3
  have q4 := f4.x.cell
  go_wp2_with fail
  go_end0
  exact ⟨rfl, f4⟩

set_option maxRecDepth 100000 in
set_option maxHeartbeats 2000000 in
theorem RM.views8 {w0 wS w : World} {rb ib xb kb : Nat} {r : List UInt8} {c1 c2 c3 c4 c5 c6 c7 c8 c9 c10 c11 c12 c13 c14 c15 : Value} (from_ born : Int) (known : List Int) (view last op commit client number nonce : Int) (text : List UInt8) (full : Bool) (base : Int) (state : List UInt8) (entries : List Ent) (hW : WOk ⟨8, from_, born, known, view, last, op, commit, client, number, nonce, text, full, base, state, entries⟩) (h : RM w0 wS w rb ib xb kb (Oct.enc view ++ (Oct.enc op ++ (Oct.enc commit ++ (r)))) [.int .i64 8, c1, c2, c3, c4, c5, c6, c7, c8, c9, c10, c11, c12, c13, c14, c15]) :
    Calls Tryd.prog 41 #[.pointer (some ⟨xb, 0, none⟩), .pointer (some ⟨rb, 0, none⟩)] w fun e w' => e = .returned (.tuple #[]) ∧ RM w0 wS w' rb ib xb kb r [.int .i64 8, c1, c2, c3, .int .i64 view, c5, .int .i64 op, .int .i64 commit, c8, c9, c10, c11, c12, c13, c14, c15] := by
  have q0 := h.x.cell
  go_enter Tryd.func41, Tryd.ntmps41
  go_wp2_with fail
  refine (h.num hW.view 4 (by simp)).mono ?_
  rintro e1 w1 ⟨rfl, r1⟩
  have f1 : RM w0 wS w1 rb ib xb kb (Oct.enc op ++ (Oct.enc commit ++ (r))) [.int .i64 8, c1, c2, c3, .int .i64 view, c5, c6, c7, c8, c9, c10, c11, c12, c13, c14, c15] := r1
  clear r1 h q0
  have q1 := f1.x.cell
  go_wp2_with fail
  refine (f1.num hW.op 6 (by simp)).mono ?_
  rintro e2 w2 ⟨rfl, r2⟩
  have f2 : RM w0 wS w2 rb ib xb kb (Oct.enc commit ++ (r)) [.int .i64 8, c1, c2, c3, .int .i64 view, c5, .int .i64 op, c7, c8, c9, c10, c11, c12, c13, c14, c15] := r2
  clear r2 f1 q1
  have q2 := f2.x.cell
  go_wp2_with fail
  refine (f2.num hW.commit 7 (by simp)).mono ?_
  rintro e3 w3 ⟨rfl, r3⟩
  have f3 : RM w0 wS w3 rb ib xb kb (r) [.int .i64 8, c1, c2, c3, .int .i64 view, c5, .int .i64 op, .int .i64 commit, c8, c9, c10, c11, c12, c13, c14, c15] := r3
  clear r3 f2 q2
  have q3 := f3.x.cell
  go_wp2_with fail
  go_end0
  exact ⟨rfl, f3⟩

set_option maxRecDepth 100000 in
set_option maxHeartbeats 2000000 in
theorem RM.views11 {w0 wS w : World} {rb ib xb kb : Nat} {r : List UInt8} {c1 c2 c3 c4 c5 c6 c7 c8 c9 c10 c11 c12 c13 c14 c15 : Value} (from_ born : Int) (known : List Int) (view last op commit client number nonce : Int) (text : List UInt8) (full : Bool) (base : Int) (state : List UInt8) (entries : List Ent) (hW : WOk ⟨11, from_, born, known, view, last, op, commit, client, number, nonce, text, full, base, state, entries⟩) (h : RM w0 wS w rb ib xb kb (Oct.enc view ++ (Oct.enc op ++ (r))) [.int .i64 11, c1, c2, c3, c4, c5, c6, c7, c8, c9, c10, c11, c12, c13, c14, c15]) :
    Calls Tryd.prog 41 #[.pointer (some ⟨xb, 0, none⟩), .pointer (some ⟨rb, 0, none⟩)] w fun e w' => e = .returned (.tuple #[]) ∧ RM w0 wS w' rb ib xb kb r [.int .i64 11, c1, c2, c3, .int .i64 view, c5, .int .i64 op, c7, c8, c9, c10, c11, c12, c13, c14, c15] := by
  have q0 := h.x.cell
  go_enter Tryd.func41, Tryd.ntmps41
  go_wp2_with fail
  refine (h.num hW.view 4 (by simp)).mono ?_
  rintro e1 w1 ⟨rfl, r1⟩
  have f1 : RM w0 wS w1 rb ib xb kb (Oct.enc op ++ (r)) [.int .i64 11, c1, c2, c3, .int .i64 view, c5, c6, c7, c8, c9, c10, c11, c12, c13, c14, c15] := r1
  clear r1 h q0
  have q1 := f1.x.cell
  go_wp2_with fail
  refine (f1.num hW.op 6 (by simp)).mono ?_
  rintro e2 w2 ⟨rfl, r2⟩
  have f2 : RM w0 wS w2 rb ib xb kb (r) [.int .i64 11, c1, c2, c3, .int .i64 view, c5, .int .i64 op, c7, c8, c9, c10, c11, c12, c13, c14, c15] := r2
  clear r2 f1 q1
  have q2 := f2.x.cell
  go_wp2_with fail
  go_end0
  exact ⟨rfl, f2⟩

set_option maxRecDepth 100000 in
set_option maxHeartbeats 2000000 in
theorem RM.views12 {w0 wS w : World} {rb ib xb kb : Nat} {r : List UInt8} {c1 c2 c3 c4 c5 c6 c7 c8 c9 c10 c11 c12 c13 c14 c15 : Value} (from_ born : Int) (known : List Int) (view last op commit client number nonce : Int) (text : List UInt8) (full : Bool) (base : Int) (state : List UInt8) (entries : List Ent) (hW : WOk ⟨12, from_, born, known, view, last, op, commit, client, number, nonce, text, full, base, state, entries⟩) (h : RM w0 wS w rb ib xb kb (Oct.enc view ++ (Oct.enc op ++ (Oct.enc commit ++ (r)))) [.int .i64 12, c1, c2, c3, c4, c5, c6, c7, c8, c9, c10, c11, c12, c13, c14, c15]) :
    Calls Tryd.prog 41 #[.pointer (some ⟨xb, 0, none⟩), .pointer (some ⟨rb, 0, none⟩)] w fun e w' => e = .returned (.tuple #[]) ∧ RM w0 wS w' rb ib xb kb r [.int .i64 12, c1, c2, c3, .int .i64 view, c5, .int .i64 op, .int .i64 commit, c8, c9, c10, c11, c12, c13, c14, c15] := by
  have q0 := h.x.cell
  go_enter Tryd.func41, Tryd.ntmps41
  go_wp2_with fail
  refine (h.num hW.view 4 (by simp)).mono ?_
  rintro e1 w1 ⟨rfl, r1⟩
  have f1 : RM w0 wS w1 rb ib xb kb (Oct.enc op ++ (Oct.enc commit ++ (r))) [.int .i64 12, c1, c2, c3, .int .i64 view, c5, c6, c7, c8, c9, c10, c11, c12, c13, c14, c15] := r1
  clear r1 h q0
  have q1 := f1.x.cell
  go_wp2_with fail
  refine (f1.num hW.op 6 (by simp)).mono ?_
  rintro e2 w2 ⟨rfl, r2⟩
  have f2 : RM w0 wS w2 rb ib xb kb (Oct.enc commit ++ (r)) [.int .i64 12, c1, c2, c3, .int .i64 view, c5, .int .i64 op, c7, c8, c9, c10, c11, c12, c13, c14, c15] := r2
  clear r2 f1 q1
  have q2 := f2.x.cell
  go_wp2_with fail
  refine (f2.num hW.commit 7 (by simp)).mono ?_
  rintro e3 w3 ⟨rfl, r3⟩
  have f3 : RM w0 wS w3 rb ib xb kb (r) [.int .i64 12, c1, c2, c3, .int .i64 view, c5, .int .i64 op, .int .i64 commit, c8, c9, c10, c11, c12, c13, c14, c15] := r3
  clear r3 f2 q2
  have q3 := f3.x.cell
  go_wp2_with fail
  go_end0
  exact ⟨rfl, f3⟩

end Go.Proofs.YtaejcejfpcjifaaDoor
