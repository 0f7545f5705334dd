/- The fields of a message, written, kind by kind. Printed by a program (msgw3.py). -/
import Derived.Test.YtaejcejfpcjifaaDoorMsgW2
namespace Go.Proofs.YtaejcejfpcjifaaDoor
open Go.RowKit
open Msg

theorem FW.cells {S : Nat → Prop} {w0 w : World} {fb N b : Nat} {l : List UInt8} {cs : Array Value} (h : FW S w0 w fb l N) (hb : ¬ S b) (hbl : b < w0.heap.size) (hc : ∀ j, w0.cell? ⟨b, j, none⟩ = cs[j]?) : ∀ j, w.cell? ⟨b, j, none⟩ = cs[j]? :=
  fun j => (h.frm.cell (p := ⟨b, j, none⟩) hbl hb).trans (hc j)
theorem tail_at (m : Ms) (kv ev : Value) (x : Bool) (hx : Msg.tail m = x) (w : World) :
    Calls Tryd.prog 42 #[msV m kv ev] w fun e w' => e = .returned (.bool x) ∧ Frm No w w' := by
  subst hx; exact tail_any m kv ev w
/-- Whatever of a message is written has bytes. -/
structure WOk (m : Ms) : Prop where
  from_ : m.kind ≠ 1 → num m.from_ = true
  known : m.known.all num = true
  born : num m.born = true
  view : num m.view = true
  last : num m.last = true
  op : num m.op = true
  commit : num m.commit = true
  client : num m.client = true
  number : num m.number = true
  nonce : num m.nonce = true
  base : num m.base = true
  text : m.text.length ≤ 65536
  state : m.state.length ≤ 65536
  ents : m.entries.all entG = true
  elen : m.entries.length ≤ 64
  klen : m.known.length ≤ 7
  one : m.kind = 2 → m.entries.length = 1
/-- A message lies at block b; since w0 it is left alone. -/
structure MsAt (S : Nat → Prop) (w0 : World) (b : Nat) (m : Ms) (kv ev : Value) : Prop where
  cell : ∀ j, w0.cell? ⟨b, j, none⟩ = (msC m kv ev)[j]?
  ns : ¬ S b
  lt : b < w0.heap.size
  kr : Rd w0 kv m.known.length 1 (intsV m.known)
  ks : ∀ k, kv.ownBlock = some k → 0 < m.known.length → ¬ S k
  er : RdL w0 ev 3 entV m.entries
  es : ∀ k, ev.ownBlock = some k → 0 < m.entries.length → ¬ S k
theorem one_of {l : List Ent} (h : l.length = 1) : ∃ x, l = [x] := by
  match l, h with
  | [x], _ => exact ⟨x, rfl⟩

set_option maxRecDepth 100000 in
set_option maxHeartbeats 2000000 in
theorem FW.views2 {S : Nat → Prop} {w0 w : World} {fb N b : Nat} {l : List UInt8} (h : FW S w0 w fb l N) (from_ born : Int) (known : List Int) (view last op commit client number nonce : Int) (text : List UInt8) (full : Bool) (base : Int) (state : List UInt8) (entries : List Ent) (kv ev : Value) (hM : MsAt S w0 b ⟨2, from_, born, known, view, last, op, commit, client, number, nonce, text, full, base, state, entries⟩ kv ev) (hW : WOk ⟨2, from_, born, known, view, last, op, commit, client, number, nonce, text, full, base, state, entries⟩) (hN : N ≤ 35000000000000) :
    Calls Tryd.prog 41 #[.pointer (some ⟨b, 0, none⟩), .pointer (some ⟨fb, 0, none⟩)] w (FWP S w0 fb (l ++ (Oct.enc view ++ Oct.enc op ++ Oct.enc commit ++ entsB entries)) (N + 100000)) := by
  have hb := hM.ns
  have hbl := hM.lt
  have hc := hM.cell
  have her := hM.er
  have hes := hM.es
  have hkr := hM.kr
  have hks := hM.ks
  unfold msC at hc
  dsimp only at hc her hes hkr hks
  obtain ⟨kao, kcp, rfl⟩ := hkr.shape
  obtain ⟨eao, ecp, rfl⟩ := her.shape
  have q0 := h.cells hb hbl hc
  have p0 := h.c2
  go_enter Tryd.func41, Tryd.ntmps41
  obtain ⟨x, rfl⟩ := one_of (hW.one rfl)
  obtain ⟨eb, eo, rfl, hec⟩ := her.at_ (by simp)
  replace hec := hec 0 (by simp)
  have hS' := hes eb rfl (by simp)
  have hb' : eb < w0.heap.size := World.block_lt_of_cell? (u := .int .i64 x.client) w0 ⟨eb, eo + (0 * 3 + 0), none⟩ (by rw [hec 0 (by omega)]; rfl)
  have hge : entG x = true := List.all_eq_true.1 hW.ents _ (by simp)
  go_wp2_with fail
  refine (h.num view ((q0 4).trans rfl) hW.view (by omega)).mono ?_
  rintro e1 w1 ⟨rfl, f1⟩
  have q1 := f1.cells hb hbl hc
  clear q0
  go_wp2_with fail
  refine (f1.num op ((q1 6).trans rfl) hW.op (by omega)).mono ?_
  rintro e2 w2 ⟨rfl, f2⟩
  have q2 := f2.cells hb hbl hc
  clear q1
  go_wp2_with fail
  refine (f2.num commit ((q2 7).trans rfl) hW.commit (by omega)).mono ?_
  rintro e3 w3 ⟨rfl, f3⟩
  have q3 := f3.cells hb hbl hc
  clear q2
  have hcell : ∀ i, i < 3 → w3.cell? ⟨eb, eo + i, none⟩ = (entV x)[i]? := fun i hi => by
    rw [f3.frm.cell (p := ⟨eb, eo + i, none⟩) hb' hS']
    have := hec i hi
    simpa using this
  clear hec
  go_wp2_with fail
  refine (f3.one x hS' hb' hcell hge (by omega)).mono ?_
  rintro e4 w4 ⟨rfl, f4⟩
  have q4 := f4.cells hb hbl hc
  clear q3
  go_wp2_with fail
  go_end0
  exact ⟨rfl, f4.weak (by simp only [entsB, List.flatMap_cons, List.flatMap_nil, List.append_nil, List.append_assoc]) (by omega)⟩

set_option maxRecDepth 100000 in
set_option maxHeartbeats 2000000 in
theorem FW.views3 {S : Nat → Prop} {w0 w : World} {fb N b : Nat} {l : List UInt8} (h : FW S w0 w fb l N) (from_ born : Int) (known : List Int) (view last op commit client number nonce : Int) (text : List UInt8) (full : Bool) (base : Int) (state : List UInt8) (entries : List Ent) (kv ev : Value) (hM : MsAt S w0 b ⟨3, from_, born, known, view, last, op, commit, client, number, nonce, text, full, base, state, entries⟩ kv ev) (hW : WOk ⟨3, from_, born, known, view, last, op, commit, client, number, nonce, text, full, base, state, entries⟩) (hN : N ≤ 35000000000000) :
    Calls Tryd.prog 41 #[.pointer (some ⟨b, 0, none⟩), .pointer (some ⟨fb, 0, none⟩)] w (FWP S w0 fb (l ++ (Oct.enc view ++ Oct.enc op)) (N + 100000)) := by
  have hb := hM.ns
  have hbl := hM.lt
  have hc := hM.cell
  have her := hM.er
  have hes := hM.es
  have hkr := hM.kr
  have hks := hM.ks
  unfold msC at hc
  dsimp only at hc her hes hkr hks
  obtain ⟨kao, kcp, rfl⟩ := hkr.shape
  obtain ⟨eao, ecp, rfl⟩ := her.shape
  have q0 := h.cells hb hbl hc
  have p0 := h.c2
  go_enter Tryd.func41, Tryd.ntmps41
  go_wp2_with fail
  refine (h.num view ((q0 4).trans rfl) hW.view (by omega)).mono ?_
  rintro e1 w1 ⟨rfl, f1⟩
  have q1 := f1.cells hb hbl hc
  clear q0
  go_wp2_with fail
  refine (f1.num op ((q1 6).trans rfl) hW.op (by omega)).mono ?_
  rintro e2 w2 ⟨rfl, f2⟩
  have q2 := f2.cells hb hbl hc
  clear q1
  go_wp2_with fail
  go_end0
  exact ⟨rfl, f2.weak (by simp only [List.append_assoc]) (by omega)⟩

set_option maxRecDepth 100000 in
set_option maxHeartbeats 2000000 in
theorem FW.views5 {S : Nat → Prop} {w0 w : World} {fb N b : Nat} {l : List UInt8} (h : FW S w0 w fb l N) (from_ born : Int) (known : List Int) (view last op commit client number nonce : Int) (text : List UInt8) (full : Bool) (base : Int) (state : List UInt8) (entries : List Ent) (kv ev : Value) (hM : MsAt S w0 b ⟨5, from_, born, known, view, last, op, commit, client, number, nonce, text, full, base, state, entries⟩ kv ev) (hW : WOk ⟨5, from_, born, known, view, last, op, commit, client, number, nonce, text, full, base, state, entries⟩) (hN : N ≤ 35000000000000) :
    Calls Tryd.prog 41 #[.pointer (some ⟨b, 0, none⟩), .pointer (some ⟨fb, 0, none⟩)] w (FWP S w0 fb (l ++ (Oct.enc view ++ Oct.enc op ++ Oct.enc commit)) (N + 100000)) := by
  have hb := hM.ns
  have hbl := hM.lt
  have hc := hM.cell
  have her := hM.er
  have hes := hM.es
  have hkr := hM.kr
  have hks := hM.ks
  unfold msC at hc
  dsimp only at hc her hes hkr hks
  obtain ⟨kao, kcp, rfl⟩ := hkr.shape
  obtain ⟨eao, ecp, rfl⟩ := her.shape
  have q0 := h.cells hb hbl hc
  have p0 := h.c2
  go_enter Tryd.func41, Tryd.ntmps41
  go_wp2_with fail
  refine (h.num view ((q0 4).trans rfl) hW.view (by omega)).mono ?_
  rintro e1 w1 ⟨rfl, f1⟩
  have q1 := f1.cells hb hbl hc
  clear q0
  go_wp2_with fail
  refine (f1.num op ((q1 6).trans rfl) hW.op (by omega)).mono ?_
  rintro e2 w2 ⟨rfl, f2⟩
  have q2 := f2.cells hb hbl hc
  clear q1
  go_wp2_with fail
  refine (f2.num commit ((q2 7).trans rfl) hW.commit (by omega)).mono ?_
  rintro e3 w3 ⟨rfl, f3⟩
  have q3 := f3.cells hb hbl hc
  clear q2
  go_wp2_with fail
  go_end0
  exact ⟨rfl, f3.weak (by simp only [List.append_assoc]) (by omega)⟩

set_option maxRecDepth 100000 in
set_option maxHeartbeats 2000000 in
theorem FW.views6 {S : Nat → Prop} {w0 w : World} {fb N b : Nat} {l : List UInt8} (h : FW S w0 w fb l N) (from_ born : Int) (known : List Int) (view last op commit client number nonce : Int) (text : List UInt8) (full : Bool) (base : Int) (state : List UInt8) (entries : List Ent) (kv ev : Value) (hM : MsAt S w0 b ⟨6, from_, born, known, view, last, op, commit, client, number, nonce, text, full, base, state, entries⟩ kv ev) (hW : WOk ⟨6, from_, born, known, view, last, op, commit, client, number, nonce, text, full, base, state, entries⟩) (hN : N ≤ 35000000000000) :
    Calls Tryd.prog 41 #[.pointer (some ⟨b, 0, none⟩), .pointer (some ⟨fb, 0, none⟩)] w (FWP S w0 fb (l ++ (Oct.enc view)) (N + 100000)) := by
  have hb := hM.ns
  have hbl := hM.lt
  have hc := hM.cell
  have her := hM.er
  have hes := hM.es
  have hkr := hM.kr
  have hks := hM.ks
  unfold msC at hc
  dsimp only at hc her hes hkr hks
  obtain ⟨kao, kcp, rfl⟩ := hkr.shape
  obtain ⟨eao, ecp, rfl⟩ := her.shape
  have q0 := h.cells hb hbl hc
  have p0 := h.c2
  go_enter Tryd.func41, Tryd.ntmps41
  go_wp2_with fail
  refine (h.num view ((q0 4).trans rfl) hW.view (by omega)).mono ?_
  rintro e1 w1 ⟨rfl, f1⟩
  have q1 := f1.cells hb hbl hc
  clear q0
  go_wp2_with fail
  go_end0
  exact ⟨rfl, f1.weak (by simp only) (by omega)⟩

set_option maxRecDepth 100000 in
set_option maxHeartbeats 2000000 in
theorem FW.views7 {S : Nat → Prop} {w0 w : World} {fb N b : Nat} {l : List UInt8} (h : FW S w0 w fb l N) (from_ born : Int) (known : List Int) (view last op commit client number nonce : Int) (text : List UInt8) (full : Bool) (base : Int) (state : List UInt8) (entries : List Ent) (kv ev : Value) (hM : MsAt S w0 b ⟨7, from_, born, known, view, last, op, commit, client, number, nonce, text, full, base, state, entries⟩ kv ev) (hW : WOk ⟨7, from_, born, known, view, last, op, commit, client, number, nonce, text, full, base, state, entries⟩) (hN : N ≤ 35000000000000) :
    Calls Tryd.prog 41 #[.pointer (some ⟨b, 0, none⟩), .pointer (some ⟨fb, 0, none⟩)] w (FWP S w0 fb (l ++ (Oct.enc view ++ Oct.enc last ++ Oct.enc op ++ Oct.enc commit)) (N + 100000)) := by
  have hb := hM.ns
  have hbl := hM.lt
  have hc := hM.cell
  have her := hM.er
  have hes := hM.es
  have hkr := hM.kr
  have hks := hM.ks
  unfold msC at hc
  dsimp only at hc her hes hkr hks
  obtain ⟨kao, kcp, rfl⟩ := hkr.shape
  obtain ⟨eao, ecp, rfl⟩ := her.shape
  have q0 := h.cells hb hbl hc
  have p0 := h.c2
  go_enter Tryd.func41, Tryd.ntmps41
  go_wp2_with fail
  refine (h.num view ((q0 4).trans rfl) hW.view (by omega)).mono ?_
  rintro e1 w1 ⟨rfl, f1⟩
  have q1 := f1.cells hb hbl hc
  clear q0
  go_wp2_with fail
  refine (f1.num last ((q1 5).trans rfl) hW.last (by omega)).mono ?_
  rintro e2 w2 ⟨rfl, f2⟩
  have q2 := f2.cells hb hbl hc
  clear q1
  go_wp2_with fail
  refine (f2.num op ((q2 6).trans rfl) hW.op (by omega)).mono ?_
  rintro e3 w3 ⟨rfl, f3⟩
  have q3 := f3.cells hb hbl hc
  clear q2
  go_wp2_with fail
  refine (f3.num commit ((q3 7).trans rfl) hW.commit (by omega)).mono ?_
  rintro e4 w4 ⟨rfl, f4⟩
  have q4 := f4.cells hb hbl hc
  clear q3
  go_wp2_with fail
  go_end0
  exact ⟨rfl, f4.weak (by simp only [List.append_assoc]) (by omega)⟩

set_option maxRecDepth 100000 in
set_option maxHeartbeats 2000000 in
theorem FW.views8 {S : Nat → Prop} {w0 w : World} {fb N b : Nat} {l : List UInt8} (h : FW S w0 w fb l N) (from_ born : Int) (known : List Int) (view last op commit client number nonce : Int) (text : List UInt8) (full : Bool) (base : Int) (state : List UInt8) (entries : List Ent) (kv ev : Value) (hM : MsAt S w0 b ⟨8, from_, born, known, view, last, op, commit, client, number, nonce, text, full, base, state, entries⟩ kv ev) (hW : WOk ⟨8, from_, born, known, view, last, op, commit, client, number, nonce, text, full, base, state, entries⟩) (hN : N ≤ 35000000000000) :
    Calls Tryd.prog 41 #[.pointer (some ⟨b, 0, none⟩), .pointer (some ⟨fb, 0, none⟩)] w (FWP S w0 fb (l ++ (Oct.enc view ++ Oct.enc op ++ Oct.enc commit)) (N + 100000)) := by
  have hb := hM.ns
  have hbl := hM.lt
  have hc := hM.cell
  have her := hM.er
  have hes := hM.es
  have hkr := hM.kr
  have hks := hM.ks
  unfold msC at hc
  dsimp only at hc her hes hkr hks
  obtain ⟨kao, kcp, rfl⟩ := hkr.shape
  obtain ⟨eao, ecp, rfl⟩ := her.shape
  have q0 := h.cells hb hbl hc
  have p0 := h.c2
  go_enter Tryd.func41, Tryd.ntmps41
  go_wp2_with fail
  refine (h.num view ((q0 4).trans rfl) hW.view (by omega)).mono ?_
  rintro e1 w1 ⟨rfl, f1⟩
  have q1 := f1.cells hb hbl hc
  clear q0
  go_wp2_with fail
  refine (f1.num op ((q1 6).trans rfl) hW.op (by omega)).mono ?_
  rintro e2 w2 ⟨rfl, f2⟩
  have q2 := f2.cells hb hbl hc
  clear q1
  go_wp2_with fail
  refine (f2.num commit ((q2 7).trans rfl) hW.commit (by omega)).mono ?_
  rintro e3 w3 ⟨rfl, f3⟩
  have q3 := f3.cells hb hbl hc
  clear q2
  go_wp2_with fail
  go_end0
  exact ⟨rfl, f3.weak (by simp only [List.append_assoc]) (by omega)⟩

set_option maxRecDepth 100000 in
set_option maxHeartbeats 2000000 in
theorem FW.views11 {S : Nat → Prop} {w0 w : World} {fb N b : Nat} {l : List UInt8} (h : FW S w0 w fb l N) (from_ born : Int) (known : List Int) (view last op commit client number nonce : Int) (text : List UInt8) (full : Bool) (base : Int) (state : List UInt8) (entries : List Ent) (kv ev : Value) (hM : MsAt S w0 b ⟨11, from_, born, known, view, last, op, commit, client, number, nonce, text, full, base, state, entries⟩ kv ev) (hW : WOk ⟨11, from_, born, known, view, last, op, commit, client, number, nonce, text, full, base, state, entries⟩) (hN : N ≤ 35000000000000) :
    Calls Tryd.prog 41 #[.pointer (some ⟨b, 0, none⟩), .pointer (some ⟨fb, 0, none⟩)] w (FWP S w0 fb (l ++ (Oct.enc view ++ Oct.enc op)) (N + 100000)) := by
  have hb := hM.ns
  have hbl := hM.lt
  have hc := hM.cell
  have her := hM.er
  have hes := hM.es
  have hkr := hM.kr
  have hks := hM.ks
  unfold msC at hc
  dsimp only at hc her hes hkr hks
  obtain ⟨kao, kcp, rfl⟩ := hkr.shape
  obtain ⟨eao, ecp, rfl⟩ := her.shape
  have q0 := h.cells hb hbl hc
  have p0 := h.c2
  go_enter Tryd.func41, Tryd.ntmps41
  go_wp2_with fail
  refine (h.num view ((q0 4).trans rfl) hW.view (by omega)).mono ?_
  rintro e1 w1 ⟨rfl, f1⟩
  have q1 := f1.cells hb hbl hc
  clear q0
  go_wp2_with fail
  refine (f1.num op ((q1 6).trans rfl) hW.op (by omega)).mono ?_
  rintro e2 w2 ⟨rfl, f2⟩
  have q2 := f2.cells hb hbl hc
  clear q1
  go_wp2_with fail
  go_end0
  exact ⟨rfl, f2.weak (by simp only [List.append_assoc]) (by omega)⟩

set_option maxRecDepth 100000 in
set_option maxHeartbeats 2000000 in
theorem FW.views12 {S : Nat → Prop} {w0 w : World} {fb N b : Nat} {l : List UInt8} (h : FW S w0 w fb l N) (from_ born : Int) (known : List Int) (view last op commit client number nonce : Int) (text : List UInt8) (full : Bool) (base : Int) (state : List UInt8) (entries : List Ent) (kv ev : Value) (hM : MsAt S w0 b ⟨12, from_, born, known, view, last, op, commit, client, number, nonce, text, full, base, state, entries⟩ kv ev) (hW : WOk ⟨12, from_, born, known, view, last, op, commit, client, number, nonce, text, full, base, state, entries⟩) (hN : N ≤ 35000000000000) :
    Calls Tryd.prog 41 #[.pointer (some ⟨b, 0, none⟩), .pointer (some ⟨fb, 0, none⟩)] w (FWP S w0 fb (l ++ (Oct.enc view ++ Oct.enc op ++ Oct.enc commit)) (N + 100000)) := by
  have hb := hM.ns
  have hbl := hM.lt
  have hc := hM.cell
  have her := hM.er
  have hes := hM.es
  have hkr := hM.kr
  have hks := hM.ks
  unfold msC at hc
  dsimp only at hc her hes hkr hks
  obtain ⟨kao, kcp, rfl⟩ := hkr.shape
  obtain ⟨eao, ecp, rfl⟩ := her.shape
  have q0 := h.cells hb hbl hc
  have p0 := h.c2
  go_enter Tryd.func41, Tryd.ntmps41
  go_wp2_with fail
  refine (h.num view ((q0 4).trans rfl) hW.view (by omega)).mono ?_
  rintro e1 w1 ⟨rfl, f1⟩
  have q1 := f1.cells hb hbl hc
  clear q0
  go_wp2_with fail
  refine (f1.num op ((q1 6).trans rfl) hW.op (by omega)).mono ?_
  rintro e2 w2 ⟨rfl, f2⟩
  have q2 := f2.cells hb hbl hc
  clear q1
  go_wp2_with fail
  refine (f2.num commit ((q2 7).trans rfl) hW.commit (by omega)).mono ?_
  rintro e3 w3 ⟨rfl, f3⟩
  have q3 := f3.cells hb hbl hc
  clear q2
  go_wp2_with fail
  go_end0
  exact ⟨rfl, f3.weak (by simp only [List.append_assoc]) (by omega)⟩

set_option maxRecDepth 100000 in
set_option maxHeartbeats 2000000 in
theorem FW.all1 {S : Nat → Prop} {w0 w : World} {fb N b : Nat} {l : List UInt8} (h : FW S w0 w fb l N) (from_ born : Int) (known : List Int) (view last op commit client number nonce : Int) (text : List UInt8) (full : Bool) (base : Int) (state : List UInt8) (entries : List Ent) (kv ev : Value) (hM : MsAt S w0 b ⟨1, from_, born, known, view, last, op, commit, client, number, nonce, text, full, base, state, entries⟩ kv ev) (hW : WOk ⟨1, from_, born, known, view, last, op, commit, client, number, nonce, text, full, base, state, entries⟩) (hN : N ≤ 30000000000000) :
    Calls Tryd.prog 20 #[.pointer (some ⟨b, 0, none⟩), .pointer (some ⟨fb, 0, none⟩)] w (FWP S w0 fb (l ++ restB ⟨1, from_, born, known, view, last, op, commit, client, number, nonce, text, full, base, state, entries⟩) (N + 5000000)) := by
  have HR : Hid (restB ⟨1, from_, born, known, view, last, op, commit, client, number, nonce, text, full, base, state, entries⟩ = Oct.enc client ++ Oct.enc number ++ Oct.text text) := hid (by simp [restB, headB, lets, letB])
  have hb := hM.ns
  have hbl := hM.lt
  have hc := hM.cell
  have her := hM.er
  have hes := hM.es
  have hkr := hM.kr
  have hks := hM.ks
  unfold msC at hc
  dsimp only at hc her hes hkr hks
  obtain ⟨kao, kcp, rfl⟩ := hkr.shape
  obtain ⟨eao, ecp, rfl⟩ := her.shape
  have q0 := h.cells hb hbl hc
  have p0 := h.c2
  go_enter Tryd.func20, Tryd.ntmps20
  go_wp2_with fail
  refine (h.num client ((q0 8).trans rfl) hW.client (by omega)).mono ?_
  rintro e1 w1 ⟨rfl, f1⟩
  have q1 := f1.cells hb hbl hc
  clear q0
  go_wp2_with fail
  refine (f1.num number ((q1 9).trans rfl) hW.number (by omega)).mono ?_
  rintro e2 w2 ⟨rfl, f2⟩
  have q2 := f2.cells hb hbl hc
  clear q1
  go_wp2_with fail
  refine (f2.text text ((q2 11).trans rfl) hW.text (by omega)).mono ?_
  rintro e3 w3 ⟨rfl, f3⟩
  have q3 := f3.cells hb hbl hc
  clear q2
  go_wp2_with fail
  refine (tail_at ⟨1, from_, born, known, view, last, op, commit, client, number, nonce, text, full, base, state, entries⟩ _ _ false (by simp [Msg.tail]) _).mono ?_
  rintro e4 w4 ⟨rfl, ht4⟩
  have f4 := f3.no ht4
  have q4 := f4.cells hb hbl hc
  clear q3
  go_wp2_with fail
  go_end0
  exact ⟨rfl, f4.weak (by rw [HR.out]; simp only [List.append_assoc]) (by omega)⟩

set_option maxRecDepth 100000 in
set_option maxHeartbeats 2000000 in
theorem FW.all2 {S : Nat → Prop} {w0 w : World} {fb N b : Nat} {l : List UInt8} (h : FW S w0 w fb l N) (from_ born : Int) (known : List Int) (view last op commit client number nonce : Int) (text : List UInt8) (full : Bool) (base : Int) (state : List UInt8) (entries : List Ent) (kv ev : Value) (hM : MsAt S w0 b ⟨2, from_, born, known, view, last, op, commit, client, number, nonce, text, full, base, state, entries⟩ kv ev) (hW : WOk ⟨2, from_, born, known, view, last, op, commit, client, number, nonce, text, full, base, state, entries⟩) (hN : N ≤ 30000000000000) :
    Calls Tryd.prog 20 #[.pointer (some ⟨b, 0, none⟩), .pointer (some ⟨fb, 0, none⟩)] w (FWP S w0 fb (l ++ restB ⟨2, from_, born, known, view, last, op, commit, client, number, nonce, text, full, base, state, entries⟩) (N + 5000000)) := by
  have HR : Hid (restB ⟨2, from_, born, known, view, last, op, commit, client, number, nonce, text, full, base, state, entries⟩ = Oct.enc from_ ++ Oct.enc born ++ Oct.ints known ++ (Oct.enc view ++ Oct.enc op ++ Oct.enc commit ++ entsB entries)) := hid (by obtain ⟨x, rfl⟩ := one_of (hW.one rfl); simp [restB, headB, lets, letB, entsB])
  have hb := hM.ns
  have hbl := hM.lt
  have hc := hM.cell
  have her := hM.er
  have hes := hM.es
  have hkr := hM.kr
  have hks := hM.ks
  unfold msC at hc
  dsimp only at hc her hes hkr hks
  obtain ⟨kao, kcp, rfl⟩ := hkr.shape
  obtain ⟨eao, ecp, rfl⟩ := her.shape
  have q0 := h.cells hb hbl hc
  have p0 := h.c2
  go_enter Tryd.func20, Tryd.ntmps20
  go_wp2_with fail
  refine (h.num from_ ((q0 1).trans rfl) (hW.from_ (by simp)) (by omega)).mono ?_
  rintro e1 w1 ⟨rfl, f1⟩
  have q1 := f1.cells hb hbl hc
  clear q0
  go_wp2_with fail
  refine (f1.num born ((q1 2).trans rfl) hW.born (by omega)).mono ?_
  rintro e2 w2 ⟨rfl, f2⟩
  have q2 := f2.cells hb hbl hc
  clear q1
  go_wp2_with fail
  have hk7 := hW.klen
  dsimp only at hk7
  go_loopw [4, 25] (fun _ i wr => ∃ k : Nat, k ≤ known.length ∧ i = .int .i64 (k : Int) ∧ FW S w0 wr fb (l ++ Oct.enc from_ ++ Oct.enc born ++ Oct.ints (known.take k)) (N + 8 + 8 + 8 * k))
    (fun _ i _ => known.length - (intOf i).toNat)
  case atStart => exact ⟨0, by omega, rfl, by simpa [Oct.ints] using f2⟩
  case round =>
   obtain ⟨k, hk, rfl, hq⟩ := hrel
   clear q2 f2
   have q3 := hq.cells hb hbl hc
   by_cases hkl : k < known.length
   · obtain ⟨kb, ko, rfl, hkc⟩ := hkr.at_ (by omega)
     have hck := hkc k (by omega)
     have hkb : kb < w0.heap.size := World.block_lt_of_cell? w0 _ hck
     have hcell : wr.cell? ⟨kb, ko + k, none⟩ = some (.int .i64 known[k]) := by
       rw [hq.frm.cell (p := ⟨kb, ko + k, none⟩) hkb (hks kb rfl (by omega)), hck]
       simp [intsV]
     have hnk : Msg.num known[k] = true := List.all_eq_true.1 hW.known _ (List.getElem_mem hkl)
     clear hkc hck
     go_wp2_with fail
     refine (hq.num known[k] hcell hnk (by omega)).mono ?_
     rintro e3 w3 ⟨rfl, f3⟩
     go_wp2_with fail
     refine ⟨⟨k + 1, by omega, by go_num, ?_⟩, by simp [intOf]; omega⟩
     exact f3.weak (by rw [Oct.ints_snoc known k hkl]; simp only [List.append_assoc]) (by omega)
   · obtain rfl : k = known.length := by omega
     replace hq := hq.weak (N' := N + 80) (by rw [List.take_length]) (by omega)
     go_wp2_with fail
     refine (hq.views2 from_ born known view last op commit client number nonce text full base state entries _ _ hM hW (by omega)).mono ?_
     rintro e4 w4 ⟨rfl, f4⟩
     have q4 := f4.cells hb hbl hc
     clear q3
     go_wp2_with fail
     refine (tail_at ⟨2, from_, born, known, view, last, op, commit, client, number, nonce, text, full, base, state, entries⟩ _ _ false (by simp [Msg.tail]) _).mono ?_
     rintro e5 w5 ⟨rfl, ht5⟩
     have f5 := f4.no ht5
     have q5 := f5.cells hb hbl hc
     clear q4
     go_wp2_with fail
     go_end0
     exact ⟨rfl, f5.weak (by rw [HR.out]; simp only [List.append_assoc]) (by omega)⟩

set_option maxRecDepth 100000 in
set_option maxHeartbeats 2000000 in
theorem FW.all3 {S : Nat → Prop} {w0 w : World} {fb N b : Nat} {l : List UInt8} (h : FW S w0 w fb l N) (from_ born : Int) (known : List Int) (view last op commit client number nonce : Int) (text : List UInt8) (full : Bool) (base : Int) (state : List UInt8) (entries : List Ent) (kv ev : Value) (hM : MsAt S w0 b ⟨3, from_, born, known, view, last, op, commit, client, number, nonce, text, full, base, state, entries⟩ kv ev) (hW : WOk ⟨3, from_, born, known, view, last, op, commit, client, number, nonce, text, full, base, state, entries⟩) (hN : N ≤ 30000000000000) :
    Calls Tryd.prog 20 #[.pointer (some ⟨b, 0, none⟩), .pointer (some ⟨fb, 0, none⟩)] w (FWP S w0 fb (l ++ restB ⟨3, from_, born, known, view, last, op, commit, client, number, nonce, text, full, base, state, entries⟩) (N + 5000000)) := by
  have HR : Hid (restB ⟨3, from_, born, known, view, last, op, commit, client, number, nonce, text, full, base, state, entries⟩ = Oct.enc from_ ++ Oct.enc born ++ Oct.ints known ++ (Oct.enc view ++ Oct.enc op)) := hid (by simp [restB, headB, lets, letB])
  have hb := hM.ns
  have hbl := hM.lt
  have hc := hM.cell
  have her := hM.er
  have hes := hM.es
  have hkr := hM.kr
  have hks := hM.ks
  unfold msC at hc
  dsimp only at hc her hes hkr hks
  obtain ⟨kao, kcp, rfl⟩ := hkr.shape
  obtain ⟨eao, ecp, rfl⟩ := her.shape
  have q0 := h.cells hb hbl hc
  have p0 := h.c2
  go_enter Tryd.func20, Tryd.ntmps20
  go_wp2_with fail
  refine (h.num from_ ((q0 1).trans rfl) (hW.from_ (by simp)) (by omega)).mono ?_
  rintro e1 w1 ⟨rfl, f1⟩
  have q1 := f1.cells hb hbl hc
  clear q0
  go_wp2_with fail
  refine (f1.num born ((q1 2).trans rfl) hW.born (by omega)).mono ?_
  rintro e2 w2 ⟨rfl, f2⟩
  have q2 := f2.cells hb hbl hc
  clear q1
  go_wp2_with fail
  have hk7 := hW.klen
  dsimp only at hk7
  go_loopw [4, 25] (fun _ i wr => ∃ k : Nat, k ≤ known.length ∧ i = .int .i64 (k : Int) ∧ FW S w0 wr fb (l ++ Oct.enc from_ ++ Oct.enc born ++ Oct.ints (known.take k)) (N + 8 + 8 + 8 * k))
    (fun _ i _ => known.length - (intOf i).toNat)
  case atStart => exact ⟨0, by omega, rfl, by simpa [Oct.ints] using f2⟩
  case round =>
   obtain ⟨k, hk, rfl, hq⟩ := hrel
   clear q2 f2
   have q3 := hq.cells hb hbl hc
   by_cases hkl : k < known.length
   · obtain ⟨kb, ko, rfl, hkc⟩ := hkr.at_ (by omega)
     have hck := hkc k (by omega)
     have hkb : kb < w0.heap.size := World.block_lt_of_cell? w0 _ hck
     have hcell : wr.cell? ⟨kb, ko + k, none⟩ = some (.int .i64 known[k]) := by
       rw [hq.frm.cell (p := ⟨kb, ko + k, none⟩) hkb (hks kb rfl (by omega)), hck]
       simp [intsV]
     have hnk : Msg.num known[k] = true := List.all_eq_true.1 hW.known _ (List.getElem_mem hkl)
     clear hkc hck
     go_wp2_with fail
     refine (hq.num known[k] hcell hnk (by omega)).mono ?_
     rintro e3 w3 ⟨rfl, f3⟩
     go_wp2_with fail
     refine ⟨⟨k + 1, by omega, by go_num, ?_⟩, by simp [intOf]; omega⟩
     exact f3.weak (by rw [Oct.ints_snoc known k hkl]; simp only [List.append_assoc]) (by omega)
   · obtain rfl : k = known.length := by omega
     replace hq := hq.weak (N' := N + 80) (by rw [List.take_length]) (by omega)
     go_wp2_with fail
     refine (hq.views3 from_ born known view last op commit client number nonce text full base state entries _ _ hM hW (by omega)).mono ?_
     rintro e4 w4 ⟨rfl, f4⟩
     have q4 := f4.cells hb hbl hc
     clear q3
     go_wp2_with fail
     refine (tail_at ⟨3, from_, born, known, view, last, op, commit, client, number, nonce, text, full, base, state, entries⟩ _ _ false (by simp [Msg.tail]) _).mono ?_
     rintro e5 w5 ⟨rfl, ht5⟩
     have f5 := f4.no ht5
     have q5 := f5.cells hb hbl hc
     clear q4
     go_wp2_with fail
     go_end0
     exact ⟨rfl, f5.weak (by rw [HR.out]; simp only [List.append_assoc]) (by omega)⟩

set_option maxRecDepth 100000 in
set_option maxHeartbeats 2000000 in
theorem FW.all4 {S : Nat → Prop} {w0 w : World} {fb N b : Nat} {l : List UInt8} (h : FW S w0 w fb l N) (from_ born : Int) (known : List Int) (view last op commit client number nonce : Int) (text : List UInt8) (full : Bool) (base : Int) (state : List UInt8) (entries : List Ent) (kv ev : Value) (hM : MsAt S w0 b ⟨4, from_, born, known, view, last, op, commit, client, number, nonce, text, full, base, state, entries⟩ kv ev) (hW : WOk ⟨4, from_, born, known, view, last, op, commit, client, number, nonce, text, full, base, state, entries⟩) (hN : N ≤ 30000000000000) :
    Calls Tryd.prog 20 #[.pointer (some ⟨b, 0, none⟩), .pointer (some ⟨fb, 0, none⟩)] w (FWP S w0 fb (l ++ restB ⟨4, from_, born, known, view, last, op, commit, client, number, nonce, text, full, base, state, entries⟩) (N + 5000000)) := by
  have HR : Hid (restB ⟨4, from_, born, known, view, last, op, commit, client, number, nonce, text, full, base, state, entries⟩ = Oct.enc from_ ++ Oct.enc born ++ Oct.ints known ++ Oct.enc view ++ Oct.enc client ++ Oct.enc number ++ Oct.text text) := hid (by simp [restB, headB, lets, letB])
  have hb := hM.ns
  have hbl := hM.lt
  have hc := hM.cell
  have her := hM.er
  have hes := hM.es
  have hkr := hM.kr
  have hks := hM.ks
  unfold msC at hc
  dsimp only at hc her hes hkr hks
  obtain ⟨kao, kcp, rfl⟩ := hkr.shape
  obtain ⟨eao, ecp, rfl⟩ := her.shape
  have q0 := h.cells hb hbl hc
  have p0 := h.c2
  go_enter Tryd.func20, Tryd.ntmps20
  go_wp2_with fail
  refine (h.num from_ ((q0 1).trans rfl) (hW.from_ (by simp)) (by omega)).mono ?_
  rintro e1 w1 ⟨rfl, f1⟩
  have q1 := f1.cells hb hbl hc
  clear q0
  go_wp2_with fail
  refine (f1.num born ((q1 2).trans rfl) hW.born (by omega)).mono ?_
  rintro e2 w2 ⟨rfl, f2⟩
  have q2 := f2.cells hb hbl hc
  clear q1
  go_wp2_with fail
  have hk7 := hW.klen
  dsimp only at hk7
  go_loopw [4, 25] (fun _ i wr => ∃ k : Nat, k ≤ known.length ∧ i = .int .i64 (k : Int) ∧ FW S w0 wr fb (l ++ Oct.enc from_ ++ Oct.enc born ++ Oct.ints (known.take k)) (N + 8 + 8 + 8 * k))
    (fun _ i _ => known.length - (intOf i).toNat)
  case atStart => exact ⟨0, by omega, rfl, by simpa [Oct.ints] using f2⟩
  case round =>
   obtain ⟨k, hk, rfl, hq⟩ := hrel
   clear q2 f2
   have q3 := hq.cells hb hbl hc
   by_cases hkl : k < known.length
   · obtain ⟨kb, ko, rfl, hkc⟩ := hkr.at_ (by omega)
     have hck := hkc k (by omega)
     have hkb : kb < w0.heap.size := World.block_lt_of_cell? w0 _ hck
     have hcell : wr.cell? ⟨kb, ko + k, none⟩ = some (.int .i64 known[k]) := by
       rw [hq.frm.cell (p := ⟨kb, ko + k, none⟩) hkb (hks kb rfl (by omega)), hck]
       simp [intsV]
     have hnk : Msg.num known[k] = true := List.all_eq_true.1 hW.known _ (List.getElem_mem hkl)
     clear hkc hck
     go_wp2_with fail
     refine (hq.num known[k] hcell hnk (by omega)).mono ?_
     rintro e3 w3 ⟨rfl, f3⟩
     go_wp2_with fail
     refine ⟨⟨k + 1, by omega, by go_num, ?_⟩, by simp [intOf]; omega⟩
     exact f3.weak (by rw [Oct.ints_snoc known k hkl]; simp only [List.append_assoc]) (by omega)
   · obtain rfl : k = known.length := by omega
     replace hq := hq.weak (N' := N + 80) (by rw [List.take_length]) (by omega)
     go_wp2_with fail
     refine (hq.num view ((q3 4).trans rfl) hW.view (by omega)).mono ?_
     rintro e4 w4 ⟨rfl, f4⟩
     have q4 := f4.cells hb hbl hc
     clear q3
     go_wp2_with fail
     refine (f4.num client ((q4 8).trans rfl) hW.client (by omega)).mono ?_
     rintro e5 w5 ⟨rfl, f5⟩
     have q5 := f5.cells hb hbl hc
     clear q4
     go_wp2_with fail
     refine (f5.num number ((q5 9).trans rfl) hW.number (by omega)).mono ?_
     rintro e6 w6 ⟨rfl, f6⟩
     have q6 := f6.cells hb hbl hc
     clear q5
     go_wp2_with fail
     refine (f6.text text ((q6 11).trans rfl) hW.text (by omega)).mono ?_
     rintro e7 w7 ⟨rfl, f7⟩
     have q7 := f7.cells hb hbl hc
     clear q6
     go_wp2_with fail
     refine (tail_at ⟨4, from_, born, known, view, last, op, commit, client, number, nonce, text, full, base, state, entries⟩ _ _ false (by simp [Msg.tail]) _).mono ?_
     rintro e8 w8 ⟨rfl, ht8⟩
     have f8 := f7.no ht8
     have q8 := f8.cells hb hbl hc
     clear q7
     go_wp2_with fail
     go_end0
     exact ⟨rfl, f8.weak (by rw [HR.out]; simp only [List.append_assoc]) (by omega)⟩

set_option maxRecDepth 100000 in
set_option maxHeartbeats 2000000 in
theorem FW.all5 {S : Nat → Prop} {w0 w : World} {fb N b : Nat} {l : List UInt8} (h : FW S w0 w fb l N) (from_ born : Int) (known : List Int) (view last op commit client number nonce : Int) (text : List UInt8) (full : Bool) (base : Int) (state : List UInt8) (entries : List Ent) (kv ev : Value) (hM : MsAt S w0 b ⟨5, from_, born, known, view, last, op, commit, client, number, nonce, text, full, base, state, entries⟩ kv ev) (hW : WOk ⟨5, from_, born, known, view, last, op, commit, client, number, nonce, text, full, base, state, entries⟩) (hN : N ≤ 30000000000000) :
    Calls Tryd.prog 20 #[.pointer (some ⟨b, 0, none⟩), .pointer (some ⟨fb, 0, none⟩)] w (FWP S w0 fb (l ++ restB ⟨5, from_, born, known, view, last, op, commit, client, number, nonce, text, full, base, state, entries⟩) (N + 5000000)) := by
  have HR : Hid (restB ⟨5, from_, born, known, view, last, op, commit, client, number, nonce, text, full, base, state, entries⟩ = Oct.enc from_ ++ Oct.enc born ++ Oct.ints known ++ (Oct.enc view ++ Oct.enc op ++ Oct.enc commit)) := hid (by simp [restB, headB, lets, letB])
  have hb := hM.ns
  have hbl := hM.lt
  have hc := hM.cell
  have her := hM.er
  have hes := hM.es
  have hkr := hM.kr
  have hks := hM.ks
  unfold msC at hc
  dsimp only at hc her hes hkr hks
  obtain ⟨kao, kcp, rfl⟩ := hkr.shape
  obtain ⟨eao, ecp, rfl⟩ := her.shape
  have q0 := h.cells hb hbl hc
  have p0 := h.c2
  go_enter Tryd.func20, Tryd.ntmps20
  go_wp2_with fail
  refine (h.num from_ ((q0 1).trans rfl) (hW.from_ (by simp)) (by omega)).mono ?_
  rintro e1 w1 ⟨rfl, f1⟩
  have q1 := f1.cells hb hbl hc
  clear q0
  go_wp2_with fail
  refine (f1.num born ((q1 2).trans rfl) hW.born (by omega)).mono ?_
  rintro e2 w2 ⟨rfl, f2⟩
  have q2 := f2.cells hb hbl hc
  clear q1
  go_wp2_with fail
  have hk7 := hW.klen
  dsimp only at hk7
  go_loopw [4, 25] (fun _ i wr => ∃ k : Nat, k ≤ known.length ∧ i = .int .i64 (k : Int) ∧ FW S w0 wr fb (l ++ Oct.enc from_ ++ Oct.enc born ++ Oct.ints (known.take k)) (N + 8 + 8 + 8 * k))
    (fun _ i _ => known.length - (intOf i).toNat)
  case atStart => exact ⟨0, by omega, rfl, by simpa [Oct.ints] using f2⟩
  case round =>
   obtain ⟨k, hk, rfl, hq⟩ := hrel
   clear q2 f2
   have q3 := hq.cells hb hbl hc
   by_cases hkl : k < known.length
   · obtain ⟨kb, ko, rfl, hkc⟩ := hkr.at_ (by omega)
     have hck := hkc k (by omega)
     have hkb : kb < w0.heap.size := World.block_lt_of_cell? w0 _ hck
     have hcell : wr.cell? ⟨kb, ko + k, none⟩ = some (.int .i64 known[k]) := by
       rw [hq.frm.cell (p := ⟨kb, ko + k, none⟩) hkb (hks kb rfl (by omega)), hck]
       simp [intsV]
     have hnk : Msg.num known[k] = true := List.all_eq_true.1 hW.known _ (List.getElem_mem hkl)
     clear hkc hck
     go_wp2_with fail
     refine (hq.num known[k] hcell hnk (by omega)).mono ?_
     rintro e3 w3 ⟨rfl, f3⟩
     go_wp2_with fail
     refine ⟨⟨k + 1, by omega, by go_num, ?_⟩, by simp [intOf]; omega⟩
     exact f3.weak (by rw [Oct.ints_snoc known k hkl]; simp only [List.append_assoc]) (by omega)
   · obtain rfl : k = known.length := by omega
     replace hq := hq.weak (N' := N + 80) (by rw [List.take_length]) (by omega)
     go_wp2_with fail
     refine (hq.views5 from_ born known view last op commit client number nonce text full base state entries _ _ hM hW (by omega)).mono ?_
     rintro e4 w4 ⟨rfl, f4⟩
     have q4 := f4.cells hb hbl hc
     clear q3
     go_wp2_with fail
     refine (tail_at ⟨5, from_, born, known, view, last, op, commit, client, number, nonce, text, full, base, state, entries⟩ _ _ false (by simp [Msg.tail]) _).mono ?_
     rintro e5 w5 ⟨rfl, ht5⟩
     have f5 := f4.no ht5
     have q5 := f5.cells hb hbl hc
     clear q4
     go_wp2_with fail
     go_end0
     exact ⟨rfl, f5.weak (by rw [HR.out]; simp only [List.append_assoc]) (by omega)⟩

set_option maxRecDepth 100000 in
set_option maxHeartbeats 2000000 in
theorem FW.all6 {S : Nat → Prop} {w0 w : World} {fb N b : Nat} {l : List UInt8} (h : FW S w0 w fb l N) (from_ born : Int) (known : List Int) (view last op commit client number nonce : Int) (text : List UInt8) (full : Bool) (base : Int) (state : List UInt8) (entries : List Ent) (kv ev : Value) (hM : MsAt S w0 b ⟨6, from_, born, known, view, last, op, commit, client, number, nonce, text, full, base, state, entries⟩ kv ev) (hW : WOk ⟨6, from_, born, known, view, last, op, commit, client, number, nonce, text, full, base, state, entries⟩) (hN : N ≤ 30000000000000) :
    Calls Tryd.prog 20 #[.pointer (some ⟨b, 0, none⟩), .pointer (some ⟨fb, 0, none⟩)] w (FWP S w0 fb (l ++ restB ⟨6, from_, born, known, view, last, op, commit, client, number, nonce, text, full, base, state, entries⟩) (N + 5000000)) := by
  have HR : Hid (restB ⟨6, from_, born, known, view, last, op, commit, client, number, nonce, text, full, base, state, entries⟩ = Oct.enc from_ ++ Oct.enc born ++ Oct.ints known ++ (Oct.enc view)) := hid (by simp [restB, headB, lets, letB])
  have hb := hM.ns
  have hbl := hM.lt
  have hc := hM.cell
  have her := hM.er
  have hes := hM.es
  have hkr := hM.kr
  have hks := hM.ks
  unfold msC at hc
  dsimp only at hc her hes hkr hks
  obtain ⟨kao, kcp, rfl⟩ := hkr.shape
  obtain ⟨eao, ecp, rfl⟩ := her.shape
  have q0 := h.cells hb hbl hc
  have p0 := h.c2
  go_enter Tryd.func20, Tryd.ntmps20
  go_wp2_with fail
  refine (h.num from_ ((q0 1).trans rfl) (hW.from_ (by simp)) (by omega)).mono ?_
  rintro e1 w1 ⟨rfl, f1⟩
  have q1 := f1.cells hb hbl hc
  clear q0
  go_wp2_with fail
  refine (f1.num born ((q1 2).trans rfl) hW.born (by omega)).mono ?_
  rintro e2 w2 ⟨rfl, f2⟩
  have q2 := f2.cells hb hbl hc
  clear q1
  go_wp2_with fail
  have hk7 := hW.klen
  dsimp only at hk7
  go_loopw [4, 25] (fun _ i wr => ∃ k : Nat, k ≤ known.length ∧ i = .int .i64 (k : Int) ∧ FW S w0 wr fb (l ++ Oct.enc from_ ++ Oct.enc born ++ Oct.ints (known.take k)) (N + 8 + 8 + 8 * k))
    (fun _ i _ => known.length - (intOf i).toNat)
  case atStart => exact ⟨0, by omega, rfl, by simpa [Oct.ints] using f2⟩
  case round =>
   obtain ⟨k, hk, rfl, hq⟩ := hrel
   clear q2 f2
   have q3 := hq.cells hb hbl hc
   by_cases hkl : k < known.length
   · obtain ⟨kb, ko, rfl, hkc⟩ := hkr.at_ (by omega)
     have hck := hkc k (by omega)
     have hkb : kb < w0.heap.size := World.block_lt_of_cell? w0 _ hck
     have hcell : wr.cell? ⟨kb, ko + k, none⟩ = some (.int .i64 known[k]) := by
       rw [hq.frm.cell (p := ⟨kb, ko + k, none⟩) hkb (hks kb rfl (by omega)), hck]
       simp [intsV]
     have hnk : Msg.num known[k] = true := List.all_eq_true.1 hW.known _ (List.getElem_mem hkl)
     clear hkc hck
     go_wp2_with fail
     refine (hq.num known[k] hcell hnk (by omega)).mono ?_
     rintro e3 w3 ⟨rfl, f3⟩
     go_wp2_with fail
     refine ⟨⟨k + 1, by omega, by go_num, ?_⟩, by simp [intOf]; omega⟩
     exact f3.weak (by rw [Oct.ints_snoc known k hkl]; simp only [List.append_assoc]) (by omega)
   · obtain rfl : k = known.length := by omega
     replace hq := hq.weak (N' := N + 80) (by rw [List.take_length]) (by omega)
     go_wp2_with fail
     refine (hq.views6 from_ born known view last op commit client number nonce text full base state entries _ _ hM hW (by omega)).mono ?_
     rintro e4 w4 ⟨rfl, f4⟩
     have q4 := f4.cells hb hbl hc
     clear q3
     go_wp2_with fail
     refine (tail_at ⟨6, from_, born, known, view, last, op, commit, client, number, nonce, text, full, base, state, entries⟩ _ _ false (by simp [Msg.tail]) _).mono ?_
     rintro e5 w5 ⟨rfl, ht5⟩
     have f5 := f4.no ht5
     have q5 := f5.cells hb hbl hc
     clear q4
     go_wp2_with fail
     go_end0
     exact ⟨rfl, f5.weak (by rw [HR.out]; simp only [List.append_assoc]) (by omega)⟩

set_option maxRecDepth 100000 in
set_option maxHeartbeats 2000000 in
theorem FW.all7 {S : Nat → Prop} {w0 w : World} {fb N b : Nat} {l : List UInt8} (h : FW S w0 w fb l N) (from_ born : Int) (known : List Int) (view last op commit client number nonce : Int) (text : List UInt8) (full : Bool) (base : Int) (state : List UInt8) (entries : List Ent) (kv ev : Value) (hM : MsAt S w0 b ⟨7, from_, born, known, view, last, op, commit, client, number, nonce, text, full, base, state, entries⟩ kv ev) (hW : WOk ⟨7, from_, born, known, view, last, op, commit, client, number, nonce, text, full, base, state, entries⟩) (hN : N ≤ 30000000000000) :
    Calls Tryd.prog 20 #[.pointer (some ⟨b, 0, none⟩), .pointer (some ⟨fb, 0, none⟩)] w (FWP S w0 fb (l ++ restB ⟨7, from_, born, known, view, last, op, commit, client, number, nonce, text, full, base, state, entries⟩) (N + 5000000)) := by
  have HR : Hid (restB ⟨7, from_, born, known, view, last, op, commit, client, number, nonce, text, full, base, state, entries⟩ = Oct.enc from_ ++ Oct.enc born ++ Oct.ints known ++ (Oct.enc view ++ Oct.enc last ++ Oct.enc op ++ Oct.enc commit) ++ Oct.enc base ++ Oct.text state ++ (Oct.enc entries.length ++ entsB entries)) := hid (by simp [restB, headB, lets, letB, tailB, entsB])
  have hb := hM.ns
  have hbl := hM.lt
  have hc := hM.cell
  have her := hM.er
  have hes := hM.es
  have hkr := hM.kr
  have hks := hM.ks
  unfold msC at hc
  dsimp only at hc her hes hkr hks
  obtain ⟨kao, kcp, rfl⟩ := hkr.shape
  obtain ⟨eao, ecp, rfl⟩ := her.shape
  have q0 := h.cells hb hbl hc
  have p0 := h.c2
  go_enter Tryd.func20, Tryd.ntmps20
  go_wp2_with fail
  refine (h.num from_ ((q0 1).trans rfl) (hW.from_ (by simp)) (by omega)).mono ?_
  rintro e1 w1 ⟨rfl, f1⟩
  have q1 := f1.cells hb hbl hc
  clear q0
  go_wp2_with fail
  refine (f1.num born ((q1 2).trans rfl) hW.born (by omega)).mono ?_
  rintro e2 w2 ⟨rfl, f2⟩
  have q2 := f2.cells hb hbl hc
  clear q1
  go_wp2_with fail
  have hk7 := hW.klen
  dsimp only at hk7
  go_loopw [4, 25] (fun _ i wr => ∃ k : Nat, k ≤ known.length ∧ i = .int .i64 (k : Int) ∧ FW S w0 wr fb (l ++ Oct.enc from_ ++ Oct.enc born ++ Oct.ints (known.take k)) (N + 8 + 8 + 8 * k))
    (fun _ i _ => known.length - (intOf i).toNat)
  case atStart => exact ⟨0, by omega, rfl, by simpa [Oct.ints] using f2⟩
  case round =>
   obtain ⟨k, hk, rfl, hq⟩ := hrel
   clear q2 f2
   have q3 := hq.cells hb hbl hc
   by_cases hkl : k < known.length
   · obtain ⟨kb, ko, rfl, hkc⟩ := hkr.at_ (by omega)
     have hck := hkc k (by omega)
     have hkb : kb < w0.heap.size := World.block_lt_of_cell? w0 _ hck
     have hcell : wr.cell? ⟨kb, ko + k, none⟩ = some (.int .i64 known[k]) := by
       rw [hq.frm.cell (p := ⟨kb, ko + k, none⟩) hkb (hks kb rfl (by omega)), hck]
       simp [intsV]
     have hnk : Msg.num known[k] = true := List.all_eq_true.1 hW.known _ (List.getElem_mem hkl)
     clear hkc hck
     go_wp2_with fail
     refine (hq.num known[k] hcell hnk (by omega)).mono ?_
     rintro e3 w3 ⟨rfl, f3⟩
     go_wp2_with fail
     refine ⟨⟨k + 1, by omega, by go_num, ?_⟩, by simp [intOf]; omega⟩
     exact f3.weak (by rw [Oct.ints_snoc known k hkl]; simp only [List.append_assoc]) (by omega)
   · obtain rfl : k = known.length := by omega
     replace hq := hq.weak (N' := N + 80) (by rw [List.take_length]) (by omega)
     go_wp2_with fail
     refine (hq.views7 from_ born known view last op commit client number nonce text full base state entries _ _ hM hW (by omega)).mono ?_
     rintro e4 w4 ⟨rfl, f4⟩
     have q4 := f4.cells hb hbl hc
     clear q3
     go_wp2_with fail
     refine (tail_at ⟨7, from_, born, known, view, last, op, commit, client, number, nonce, text, full, base, state, entries⟩ _ _ true (by simp [Msg.tail]) _).mono ?_
     rintro e5 w5 ⟨rfl, ht5⟩
     have f5 := f4.no ht5
     have q5 := f5.cells hb hbl hc
     clear q4
     go_wp2_with fail
     refine (f5.num base ((q5 13).trans rfl) hW.base (by omega)).mono ?_
     rintro e6 w6 ⟨rfl, f6⟩
     have q6 := f6.cells hb hbl hc
     clear q5
     go_wp2_with fail
     refine (f6.text state ((q6 14).trans rfl) hW.state (by omega)).mono ?_
     rintro e7 w7 ⟨rfl, f7⟩
     have q7 := f7.cells hb hbl hc
     clear q6
     go_wp2_with fail
     refine (f7.entries entries _ hb ((hc 15).trans rfl) her hes hW.ents hW.elen (by omega)).mono ?_
     rintro e8 w8 ⟨rfl, f8⟩
     have q8 := f8.cells hb hbl hc
     clear q7
     go_wp2_with fail
     go_end0
     exact ⟨rfl, f8.weak (by rw [HR.out]; simp only [List.append_assoc]) (by omega)⟩

set_option maxRecDepth 100000 in
set_option maxHeartbeats 2000000 in
theorem FW.all8 {S : Nat → Prop} {w0 w : World} {fb N b : Nat} {l : List UInt8} (h : FW S w0 w fb l N) (from_ born : Int) (known : List Int) (view last op commit client number nonce : Int) (text : List UInt8) (full : Bool) (base : Int) (state : List UInt8) (entries : List Ent) (kv ev : Value) (hM : MsAt S w0 b ⟨8, from_, born, known, view, last, op, commit, client, number, nonce, text, full, base, state, entries⟩ kv ev) (hW : WOk ⟨8, from_, born, known, view, last, op, commit, client, number, nonce, text, full, base, state, entries⟩) (hN : N ≤ 30000000000000) :
    Calls Tryd.prog 20 #[.pointer (some ⟨b, 0, none⟩), .pointer (some ⟨fb, 0, none⟩)] w (FWP S w0 fb (l ++ restB ⟨8, from_, born, known, view, last, op, commit, client, number, nonce, text, full, base, state, entries⟩) (N + 5000000)) := by
  have HR : Hid (restB ⟨8, from_, born, known, view, last, op, commit, client, number, nonce, text, full, base, state, entries⟩ = Oct.enc from_ ++ Oct.enc born ++ Oct.ints known ++ (Oct.enc view ++ Oct.enc op ++ Oct.enc commit) ++ Oct.enc base ++ Oct.text state ++ (Oct.enc entries.length ++ entsB entries)) := hid (by simp [restB, headB, lets, letB, tailB, entsB])
  have hb := hM.ns
  have hbl := hM.lt
  have hc := hM.cell
  have her := hM.er
  have hes := hM.es
  have hkr := hM.kr
  have hks := hM.ks
  unfold msC at hc
  dsimp only at hc her hes hkr hks
  obtain ⟨kao, kcp, rfl⟩ := hkr.shape
  obtain ⟨eao, ecp, rfl⟩ := her.shape
  have q0 := h.cells hb hbl hc
  have p0 := h.c2
  go_enter Tryd.func20, Tryd.ntmps20
  go_wp2_with fail
  refine (h.num from_ ((q0 1).trans rfl) (hW.from_ (by simp)) (by omega)).mono ?_
  rintro e1 w1 ⟨rfl, f1⟩
  have q1 := f1.cells hb hbl hc
  clear q0
  go_wp2_with fail
  refine (f1.num born ((q1 2).trans rfl) hW.born (by omega)).mono ?_
  rintro e2 w2 ⟨rfl, f2⟩
  have q2 := f2.cells hb hbl hc
  clear q1
  go_wp2_with fail
  have hk7 := hW.klen
  dsimp only at hk7
  go_loopw [4, 25] (fun _ i wr => ∃ k : Nat, k ≤ known.length ∧ i = .int .i64 (k : Int) ∧ FW S w0 wr fb (l ++ Oct.enc from_ ++ Oct.enc born ++ Oct.ints (known.take k)) (N + 8 + 8 + 8 * k))
    (fun _ i _ => known.length - (intOf i).toNat)
  case atStart => exact ⟨0, by omega, rfl, by simpa [Oct.ints] using f2⟩
  case round =>
   obtain ⟨k, hk, rfl, hq⟩ := hrel
   clear q2 f2
   have q3 := hq.cells hb hbl hc
   by_cases hkl : k < known.length
   · obtain ⟨kb, ko, rfl, hkc⟩ := hkr.at_ (by omega)
     have hck := hkc k (by omega)
     have hkb : kb < w0.heap.size := World.block_lt_of_cell? w0 _ hck
     have hcell : wr.cell? ⟨kb, ko + k, none⟩ = some (.int .i64 known[k]) := by
       rw [hq.frm.cell (p := ⟨kb, ko + k, none⟩) hkb (hks kb rfl (by omega)), hck]
       simp [intsV]
     have hnk : Msg.num known[k] = true := List.all_eq_true.1 hW.known _ (List.getElem_mem hkl)
     clear hkc hck
     go_wp2_with fail
     refine (hq.num known[k] hcell hnk (by omega)).mono ?_
     rintro e3 w3 ⟨rfl, f3⟩
     go_wp2_with fail
     refine ⟨⟨k + 1, by omega, by go_num, ?_⟩, by simp [intOf]; omega⟩
     exact f3.weak (by rw [Oct.ints_snoc known k hkl]; simp only [List.append_assoc]) (by omega)
   · obtain rfl : k = known.length := by omega
     replace hq := hq.weak (N' := N + 80) (by rw [List.take_length]) (by omega)
     go_wp2_with fail
     refine (hq.views8 from_ born known view last op commit client number nonce text full base state entries _ _ hM hW (by omega)).mono ?_
     rintro e4 w4 ⟨rfl, f4⟩
     have q4 := f4.cells hb hbl hc
     clear q3
     go_wp2_with fail
     refine (tail_at ⟨8, from_, born, known, view, last, op, commit, client, number, nonce, text, full, base, state, entries⟩ _ _ true (by simp [Msg.tail]) _).mono ?_
     rintro e5 w5 ⟨rfl, ht5⟩
     have f5 := f4.no ht5
     have q5 := f5.cells hb hbl hc
     clear q4
     go_wp2_with fail
     refine (f5.num base ((q5 13).trans rfl) hW.base (by omega)).mono ?_
     rintro e6 w6 ⟨rfl, f6⟩
     have q6 := f6.cells hb hbl hc
     clear q5
     go_wp2_with fail
     refine (f6.text state ((q6 14).trans rfl) hW.state (by omega)).mono ?_
     rintro e7 w7 ⟨rfl, f7⟩
     have q7 := f7.cells hb hbl hc
     clear q6
     go_wp2_with fail
     refine (f7.entries entries _ hb ((hc 15).trans rfl) her hes hW.ents hW.elen (by omega)).mono ?_
     rintro e8 w8 ⟨rfl, f8⟩
     have q8 := f8.cells hb hbl hc
     clear q7
     go_wp2_with fail
     go_end0
     exact ⟨rfl, f8.weak (by rw [HR.out]; simp only [List.append_assoc]) (by omega)⟩

set_option maxRecDepth 100000 in
set_option maxHeartbeats 2000000 in
theorem FW.all9 {S : Nat → Prop} {w0 w : World} {fb N b : Nat} {l : List UInt8} (h : FW S w0 w fb l N) (from_ born : Int) (known : List Int) (view last op commit client number nonce : Int) (text : List UInt8) (full : Bool) (base : Int) (state : List UInt8) (entries : List Ent) (kv ev : Value) (hM : MsAt S w0 b ⟨9, from_, born, known, view, last, op, commit, client, number, nonce, text, full, base, state, entries⟩ kv ev) (hW : WOk ⟨9, from_, born, known, view, last, op, commit, client, number, nonce, text, full, base, state, entries⟩) (hN : N ≤ 30000000000000) :
    Calls Tryd.prog 20 #[.pointer (some ⟨b, 0, none⟩), .pointer (some ⟨fb, 0, none⟩)] w (FWP S w0 fb (l ++ restB ⟨9, from_, born, known, view, last, op, commit, client, number, nonce, text, full, base, state, entries⟩) (N + 5000000)) := by
  have HR : Hid (restB ⟨9, from_, born, known, view, last, op, commit, client, number, nonce, text, full, base, state, entries⟩ = Oct.enc from_ ++ Oct.enc born ++ Oct.ints known ++ Oct.enc nonce) := hid (by simp [restB, headB, lets, letB])
  have hb := hM.ns
  have hbl := hM.lt
  have hc := hM.cell
  have her := hM.er
  have hes := hM.es
  have hkr := hM.kr
  have hks := hM.ks
  unfold msC at hc
  dsimp only at hc her hes hkr hks
  obtain ⟨kao, kcp, rfl⟩ := hkr.shape
  obtain ⟨eao, ecp, rfl⟩ := her.shape
  have q0 := h.cells hb hbl hc
  have p0 := h.c2
  go_enter Tryd.func20, Tryd.ntmps20
  go_wp2_with fail
  refine (h.num from_ ((q0 1).trans rfl) (hW.from_ (by simp)) (by omega)).mono ?_
  rintro e1 w1 ⟨rfl, f1⟩
  have q1 := f1.cells hb hbl hc
  clear q0
  go_wp2_with fail
  refine (f1.num born ((q1 2).trans rfl) hW.born (by omega)).mono ?_
  rintro e2 w2 ⟨rfl, f2⟩
  have q2 := f2.cells hb hbl hc
  clear q1
  go_wp2_with fail
  have hk7 := hW.klen
  dsimp only at hk7
  go_loopw [4, 25] (fun _ i wr => ∃ k : Nat, k ≤ known.length ∧ i = .int .i64 (k : Int) ∧ FW S w0 wr fb (l ++ Oct.enc from_ ++ Oct.enc born ++ Oct.ints (known.take k)) (N + 8 + 8 + 8 * k))
    (fun _ i _ => known.length - (intOf i).toNat)
  case atStart => exact ⟨0, by omega, rfl, by simpa [Oct.ints] using f2⟩
  case round =>
   obtain ⟨k, hk, rfl, hq⟩ := hrel
   clear q2 f2
   have q3 := hq.cells hb hbl hc
   by_cases hkl : k < known.length
   · obtain ⟨kb, ko, rfl, hkc⟩ := hkr.at_ (by omega)
     have hck := hkc k (by omega)
     have hkb : kb < w0.heap.size := World.block_lt_of_cell? w0 _ hck
     have hcell : wr.cell? ⟨kb, ko + k, none⟩ = some (.int .i64 known[k]) := by
       rw [hq.frm.cell (p := ⟨kb, ko + k, none⟩) hkb (hks kb rfl (by omega)), hck]
       simp [intsV]
     have hnk : Msg.num known[k] = true := List.all_eq_true.1 hW.known _ (List.getElem_mem hkl)
     clear hkc hck
     go_wp2_with fail
     refine (hq.num known[k] hcell hnk (by omega)).mono ?_
     rintro e3 w3 ⟨rfl, f3⟩
     go_wp2_with fail
     refine ⟨⟨k + 1, by omega, by go_num, ?_⟩, by simp [intOf]; omega⟩
     exact f3.weak (by rw [Oct.ints_snoc known k hkl]; simp only [List.append_assoc]) (by omega)
   · obtain rfl : k = known.length := by omega
     replace hq := hq.weak (N' := N + 80) (by rw [List.take_length]) (by omega)
     go_wp2_with fail
     refine (hq.num nonce ((q3 10).trans rfl) hW.nonce (by omega)).mono ?_
     rintro e4 w4 ⟨rfl, f4⟩
     have q4 := f4.cells hb hbl hc
     clear q3
     go_wp2_with fail
     refine (tail_at ⟨9, from_, born, known, view, last, op, commit, client, number, nonce, text, full, base, state, entries⟩ _ _ false (by simp [Msg.tail]) _).mono ?_
     rintro e5 w5 ⟨rfl, ht5⟩
     have f5 := f4.no ht5
     have q5 := f5.cells hb hbl hc
     clear q4
     go_wp2_with fail
     go_end0
     exact ⟨rfl, f5.weak (by rw [HR.out]; simp only [List.append_assoc]) (by omega)⟩

set_option maxRecDepth 100000 in
set_option maxHeartbeats 2000000 in
theorem FW.all10t {S : Nat → Prop} {w0 w : World} {fb N b : Nat} {l : List UInt8} (h : FW S w0 w fb l N) (from_ born : Int) (known : List Int) (view last op commit client number nonce : Int) (text : List UInt8) (base : Int) (state : List UInt8) (entries : List Ent) (kv ev : Value) (hM : MsAt S w0 b ⟨10, from_, born, known, view, last, op, commit, client, number, nonce, text, true, base, state, entries⟩ kv ev) (hW : WOk ⟨10, from_, born, known, view, last, op, commit, client, number, nonce, text, true, base, state, entries⟩) (hN : N ≤ 30000000000000) :
    Calls Tryd.prog 20 #[.pointer (some ⟨b, 0, none⟩), .pointer (some ⟨fb, 0, none⟩)] w (FWP S w0 fb (l ++ restB ⟨10, from_, born, known, view, last, op, commit, client, number, nonce, text, true, base, state, entries⟩) (N + 5000000)) := by
  have HR : Hid (restB ⟨10, from_, born, known, view, last, op, commit, client, number, nonce, text, true, base, state, entries⟩ = Oct.enc from_ ++ Oct.enc born ++ Oct.ints known ++ Oct.enc view ++ Oct.enc nonce ++ Oct.flag true ++ Oct.enc op ++ Oct.enc commit ++ Oct.enc base ++ Oct.text state ++ (Oct.enc entries.length ++ entsB entries)) := hid (by simp [restB, headB, lets, letB, tailB, entsB])
  have hb := hM.ns
  have hbl := hM.lt
  have hc := hM.cell
  have her := hM.er
  have hes := hM.es
  have hkr := hM.kr
  have hks := hM.ks
  unfold msC at hc
  dsimp only at hc her hes hkr hks
  obtain ⟨kao, kcp, rfl⟩ := hkr.shape
  obtain ⟨eao, ecp, rfl⟩ := her.shape
  have q0 := h.cells hb hbl hc
  have p0 := h.c2
  go_enter Tryd.func20, Tryd.ntmps20
  go_wp2_with fail
  refine (h.num from_ ((q0 1).trans rfl) (hW.from_ (by simp)) (by omega)).mono ?_
  rintro e1 w1 ⟨rfl, f1⟩
  have q1 := f1.cells hb hbl hc
  clear q0
  go_wp2_with fail
  refine (f1.num born ((q1 2).trans rfl) hW.born (by omega)).mono ?_
  rintro e2 w2 ⟨rfl, f2⟩
  have q2 := f2.cells hb hbl hc
  clear q1
  go_wp2_with fail
  have hk7 := hW.klen
  dsimp only at hk7
  go_loopw [4, 25] (fun _ i wr => ∃ k : Nat, k ≤ known.length ∧ i = .int .i64 (k : Int) ∧ FW S w0 wr fb (l ++ Oct.enc from_ ++ Oct.enc born ++ Oct.ints (known.take k)) (N + 8 + 8 + 8 * k))
    (fun _ i _ => known.length - (intOf i).toNat)
  case atStart => exact ⟨0, by omega, rfl, by simpa [Oct.ints] using f2⟩
  case round =>
   obtain ⟨k, hk, rfl, hq⟩ := hrel
   clear q2 f2
   have q3 := hq.cells hb hbl hc
   by_cases hkl : k < known.length
   · obtain ⟨kb, ko, rfl, hkc⟩ := hkr.at_ (by omega)
     have hck := hkc k (by omega)
     have hkb : kb < w0.heap.size := World.block_lt_of_cell? w0 _ hck
     have hcell : wr.cell? ⟨kb, ko + k, none⟩ = some (.int .i64 known[k]) := by
       rw [hq.frm.cell (p := ⟨kb, ko + k, none⟩) hkb (hks kb rfl (by omega)), hck]
       simp [intsV]
     have hnk : Msg.num known[k] = true := List.all_eq_true.1 hW.known _ (List.getElem_mem hkl)
     clear hkc hck
     go_wp2_with fail
     refine (hq.num known[k] hcell hnk (by omega)).mono ?_
     rintro e3 w3 ⟨rfl, f3⟩
     go_wp2_with fail
     refine ⟨⟨k + 1, by omega, by go_num, ?_⟩, by simp [intOf]; omega⟩
     exact f3.weak (by rw [Oct.ints_snoc known k hkl]; simp only [List.append_assoc]) (by omega)
   · obtain rfl : k = known.length := by omega
     replace hq := hq.weak (N' := N + 80) (by rw [List.take_length]) (by omega)
     go_wp2_with fail
     refine (hq.num view ((q3 4).trans rfl) hW.view (by omega)).mono ?_
     rintro e4 w4 ⟨rfl, f4⟩
     have q4 := f4.cells hb hbl hc
     clear q3
     go_wp2_with fail
     refine (f4.num nonce ((q4 10).trans rfl) hW.nonce (by omega)).mono ?_
     rintro e5 w5 ⟨rfl, f5⟩
     have q5 := f5.cells hb hbl hc
     clear q4
     go_wp2_with fail
     refine (f5.flag true ((q5 12).trans rfl) (by omega)).mono ?_
     rintro e6 w6 ⟨rfl, f6⟩
     have q6 := f6.cells hb hbl hc
     clear q5
     go_wp2_with fail
     refine (f6.num op ((q6 6).trans rfl) hW.op (by omega)).mono ?_
     rintro e7 w7 ⟨rfl, f7⟩
     have q7 := f7.cells hb hbl hc
     clear q6
     go_wp2_with fail
     refine (f7.num commit ((q7 7).trans rfl) hW.commit (by omega)).mono ?_
     rintro e8 w8 ⟨rfl, f8⟩
     have q8 := f8.cells hb hbl hc
     clear q7
     go_wp2_with fail
     refine (tail_at ⟨10, from_, born, known, view, last, op, commit, client, number, nonce, text, true, base, state, entries⟩ _ _ true (by simp [Msg.tail]) _).mono ?_
     rintro e9 w9 ⟨rfl, ht9⟩
     have f9 := f8.no ht9
     have q9 := f9.cells hb hbl hc
     clear q8
     go_wp2_with fail
     refine (f9.num base ((q9 13).trans rfl) hW.base (by omega)).mono ?_
     rintro e10 w10 ⟨rfl, f10⟩
     have q10 := f10.cells hb hbl hc
     clear q9
     go_wp2_with fail
     refine (f10.text state ((q10 14).trans rfl) hW.state (by omega)).mono ?_
     rintro e11 w11 ⟨rfl, f11⟩
     have q11 := f11.cells hb hbl hc
     clear q10
     go_wp2_with fail
     refine (f11.entries entries _ hb ((hc 15).trans rfl) her hes hW.ents hW.elen (by omega)).mono ?_
     rintro e12 w12 ⟨rfl, f12⟩
     have q12 := f12.cells hb hbl hc
     clear q11
     go_wp2_with fail
     go_end0
     exact ⟨rfl, f12.weak (by rw [HR.out]; simp only [List.append_assoc]) (by omega)⟩

set_option maxRecDepth 100000 in
set_option maxHeartbeats 2000000 in
theorem FW.all10f {S : Nat → Prop} {w0 w : World} {fb N b : Nat} {l : List UInt8} (h : FW S w0 w fb l N) (from_ born : Int) (known : List Int) (view last op commit client number nonce : Int) (text : List UInt8) (base : Int) (state : List UInt8) (entries : List Ent) (kv ev : Value) (hM : MsAt S w0 b ⟨10, from_, born, known, view, last, op, commit, client, number, nonce, text, false, base, state, entries⟩ kv ev) (hW : WOk ⟨10, from_, born, known, view, last, op, commit, client, number, nonce, text, false, base, state, entries⟩) (hN : N ≤ 30000000000000) :
    Calls Tryd.prog 20 #[.pointer (some ⟨b, 0, none⟩), .pointer (some ⟨fb, 0, none⟩)] w (FWP S w0 fb (l ++ restB ⟨10, from_, born, known, view, last, op, commit, client, number, nonce, text, false, base, state, entries⟩) (N + 5000000)) := by
  have HR : Hid (restB ⟨10, from_, born, known, view, last, op, commit, client, number, nonce, text, false, base, state, entries⟩ = Oct.enc from_ ++ Oct.enc born ++ Oct.ints known ++ Oct.enc view ++ Oct.enc nonce ++ Oct.flag false) := hid (by simp [restB, headB, lets, letB])
  have hb := hM.ns
  have hbl := hM.lt
  have hc := hM.cell
  have her := hM.er
  have hes := hM.es
  have hkr := hM.kr
  have hks := hM.ks
  unfold msC at hc
  dsimp only at hc her hes hkr hks
  obtain ⟨kao, kcp, rfl⟩ := hkr.shape
  obtain ⟨eao, ecp, rfl⟩ := her.shape
  have q0 := h.cells hb hbl hc
  have p0 := h.c2
  go_enter Tryd.func20, Tryd.ntmps20
  go_wp2_with fail
  refine (h.num from_ ((q0 1).trans rfl) (hW.from_ (by simp)) (by omega)).mono ?_
  rintro e1 w1 ⟨rfl, f1⟩
  have q1 := f1.cells hb hbl hc
  clear q0
  go_wp2_with fail
  refine (f1.num born ((q1 2).trans rfl) hW.born (by omega)).mono ?_
  rintro e2 w2 ⟨rfl, f2⟩
  have q2 := f2.cells hb hbl hc
  clear q1
  go_wp2_with fail
  have hk7 := hW.klen
  dsimp only at hk7
  go_loopw [4, 25] (fun _ i wr => ∃ k : Nat, k ≤ known.length ∧ i = .int .i64 (k : Int) ∧ FW S w0 wr fb (l ++ Oct.enc from_ ++ Oct.enc born ++ Oct.ints (known.take k)) (N + 8 + 8 + 8 * k))
    (fun _ i _ => known.length - (intOf i).toNat)
  case atStart => exact ⟨0, by omega, rfl, by simpa [Oct.ints] using f2⟩
  case round =>
   obtain ⟨k, hk, rfl, hq⟩ := hrel
   clear q2 f2
   have q3 := hq.cells hb hbl hc
   by_cases hkl : k < known.length
   · obtain ⟨kb, ko, rfl, hkc⟩ := hkr.at_ (by omega)
     have hck := hkc k (by omega)
     have hkb : kb < w0.heap.size := World.block_lt_of_cell? w0 _ hck
     have hcell : wr.cell? ⟨kb, ko + k, none⟩ = some (.int .i64 known[k]) := by
       rw [hq.frm.cell (p := ⟨kb, ko + k, none⟩) hkb (hks kb rfl (by omega)), hck]
       simp [intsV]
     have hnk : Msg.num known[k] = true := List.all_eq_true.1 hW.known _ (List.getElem_mem hkl)
     clear hkc hck
     go_wp2_with fail
     refine (hq.num known[k] hcell hnk (by omega)).mono ?_
     rintro e3 w3 ⟨rfl, f3⟩
     go_wp2_with fail
     refine ⟨⟨k + 1, by omega, by go_num, ?_⟩, by simp [intOf]; omega⟩
     exact f3.weak (by rw [Oct.ints_snoc known k hkl]; simp only [List.append_assoc]) (by omega)
   · obtain rfl : k = known.length := by omega
     replace hq := hq.weak (N' := N + 80) (by rw [List.take_length]) (by omega)
     go_wp2_with fail
     refine (hq.num view ((q3 4).trans rfl) hW.view (by omega)).mono ?_
     rintro e4 w4 ⟨rfl, f4⟩
     have q4 := f4.cells hb hbl hc
     clear q3
     go_wp2_with fail
     refine (f4.num nonce ((q4 10).trans rfl) hW.nonce (by omega)).mono ?_
     rintro e5 w5 ⟨rfl, f5⟩
     have q5 := f5.cells hb hbl hc
     clear q4
     go_wp2_with fail
     refine (f5.flag false ((q5 12).trans rfl) (by omega)).mono ?_
     rintro e6 w6 ⟨rfl, f6⟩
     have q6 := f6.cells hb hbl hc
     clear q5
     go_wp2_with fail
     refine (tail_at ⟨10, from_, born, known, view, last, op, commit, client, number, nonce, text, false, base, state, entries⟩ _ _ false (by simp [Msg.tail]) _).mono ?_
     rintro e7 w7 ⟨rfl, ht7⟩
     have f7 := f6.no ht7
     have q7 := f7.cells hb hbl hc
     clear q6
     go_wp2_with fail
     go_end0
     exact ⟨rfl, f7.weak (by rw [HR.out]; simp only [List.append_assoc]) (by omega)⟩

set_option maxRecDepth 100000 in
set_option maxHeartbeats 2000000 in
theorem FW.all11 {S : Nat → Prop} {w0 w : World} {fb N b : Nat} {l : List UInt8} (h : FW S w0 w fb l N) (from_ born : Int) (known : List Int) (view last op commit client number nonce : Int) (text : List UInt8) (full : Bool) (base : Int) (state : List UInt8) (entries : List Ent) (kv ev : Value) (hM : MsAt S w0 b ⟨11, from_, born, known, view, last, op, commit, client, number, nonce, text, full, base, state, entries⟩ kv ev) (hW : WOk ⟨11, from_, born, known, view, last, op, commit, client, number, nonce, text, full, base, state, entries⟩) (hN : N ≤ 30000000000000) :
    Calls Tryd.prog 20 #[.pointer (some ⟨b, 0, none⟩), .pointer (some ⟨fb, 0, none⟩)] w (FWP S w0 fb (l ++ restB ⟨11, from_, born, known, view, last, op, commit, client, number, nonce, text, full, base, state, entries⟩) (N + 5000000)) := by
  have HR : Hid (restB ⟨11, from_, born, known, view, last, op, commit, client, number, nonce, text, full, base, state, entries⟩ = Oct.enc from_ ++ Oct.enc born ++ Oct.ints known ++ (Oct.enc view ++ Oct.enc op)) := hid (by simp [restB, headB, lets, letB])
  have hb := hM.ns
  have hbl := hM.lt
  have hc := hM.cell
  have her := hM.er
  have hes := hM.es
  have hkr := hM.kr
  have hks := hM.ks
  unfold msC at hc
  dsimp only at hc her hes hkr hks
  obtain ⟨kao, kcp, rfl⟩ := hkr.shape
  obtain ⟨eao, ecp, rfl⟩ := her.shape
  have q0 := h.cells hb hbl hc
  have p0 := h.c2
  go_enter Tryd.func20, Tryd.ntmps20
  go_wp2_with fail
  refine (h.num from_ ((q0 1).trans rfl) (hW.from_ (by simp)) (by omega)).mono ?_
  rintro e1 w1 ⟨rfl, f1⟩
  have q1 := f1.cells hb hbl hc
  clear q0
  go_wp2_with fail
  refine (f1.num born ((q1 2).trans rfl) hW.born (by omega)).mono ?_
  rintro e2 w2 ⟨rfl, f2⟩
  have q2 := f2.cells hb hbl hc
  clear q1
  go_wp2_with fail
  have hk7 := hW.klen
  dsimp only at hk7
  go_loopw [4, 25] (fun _ i wr => ∃ k : Nat, k ≤ known.length ∧ i = .int .i64 (k : Int) ∧ FW S w0 wr fb (l ++ Oct.enc from_ ++ Oct.enc born ++ Oct.ints (known.take k)) (N + 8 + 8 + 8 * k))
    (fun _ i _ => known.length - (intOf i).toNat)
  case atStart => exact ⟨0, by omega, rfl, by simpa [Oct.ints] using f2⟩
  case round =>
   obtain ⟨k, hk, rfl, hq⟩ := hrel
   clear q2 f2
   have q3 := hq.cells hb hbl hc
   by_cases hkl : k < known.length
   · obtain ⟨kb, ko, rfl, hkc⟩ := hkr.at_ (by omega)
     have hck := hkc k (by omega)
     have hkb : kb < w0.heap.size := World.block_lt_of_cell? w0 _ hck
     have hcell : wr.cell? ⟨kb, ko + k, none⟩ = some (.int .i64 known[k]) := by
       rw [hq.frm.cell (p := ⟨kb, ko + k, none⟩) hkb (hks kb rfl (by omega)), hck]
       simp [intsV]
     have hnk : Msg.num known[k] = true := List.all_eq_true.1 hW.known _ (List.getElem_mem hkl)
     clear hkc hck
     go_wp2_with fail
     refine (hq.num known[k] hcell hnk (by omega)).mono ?_
     rintro e3 w3 ⟨rfl, f3⟩
     go_wp2_with fail
     refine ⟨⟨k + 1, by omega, by go_num, ?_⟩, by simp [intOf]; omega⟩
     exact f3.weak (by rw [Oct.ints_snoc known k hkl]; simp only [List.append_assoc]) (by omega)
   · obtain rfl : k = known.length := by omega
     replace hq := hq.weak (N' := N + 80) (by rw [List.take_length]) (by omega)
     go_wp2_with fail
     refine (hq.views11 from_ born known view last op commit client number nonce text full base state entries _ _ hM hW (by omega)).mono ?_
     rintro e4 w4 ⟨rfl, f4⟩
     have q4 := f4.cells hb hbl hc
     clear q3
     go_wp2_with fail
     refine (tail_at ⟨11, from_, born, known, view, last, op, commit, client, number, nonce, text, full, base, state, entries⟩ _ _ false (by simp [Msg.tail]) _).mono ?_
     rintro e5 w5 ⟨rfl, ht5⟩
     have f5 := f4.no ht5
     have q5 := f5.cells hb hbl hc
     clear q4
     go_wp2_with fail
     go_end0
     exact ⟨rfl, f5.weak (by rw [HR.out]; simp only [List.append_assoc]) (by omega)⟩

set_option maxRecDepth 100000 in
set_option maxHeartbeats 2000000 in
theorem FW.all12 {S : Nat → Prop} {w0 w : World} {fb N b : Nat} {l : List UInt8} (h : FW S w0 w fb l N) (from_ born : Int) (known : List Int) (view last op commit client number nonce : Int) (text : List UInt8) (full : Bool) (base : Int) (state : List UInt8) (entries : List Ent) (kv ev : Value) (hM : MsAt S w0 b ⟨12, from_, born, known, view, last, op, commit, client, number, nonce, text, full, base, state, entries⟩ kv ev) (hW : WOk ⟨12, from_, born, known, view, last, op, commit, client, number, nonce, text, full, base, state, entries⟩) (hN : N ≤ 30000000000000) :
    Calls Tryd.prog 20 #[.pointer (some ⟨b, 0, none⟩), .pointer (some ⟨fb, 0, none⟩)] w (FWP S w0 fb (l ++ restB ⟨12, from_, born, known, view, last, op, commit, client, number, nonce, text, full, base, state, entries⟩) (N + 5000000)) := by
  have HR : Hid (restB ⟨12, from_, born, known, view, last, op, commit, client, number, nonce, text, full, base, state, entries⟩ = Oct.enc from_ ++ Oct.enc born ++ Oct.ints known ++ (Oct.enc view ++ Oct.enc op ++ Oct.enc commit) ++ Oct.enc base ++ Oct.text state ++ (Oct.enc entries.length ++ entsB entries)) := hid (by simp [restB, headB, lets, letB, tailB, entsB])
  have hb := hM.ns
  have hbl := hM.lt
  have hc := hM.cell
  have her := hM.er
  have hes := hM.es
  have hkr := hM.kr
  have hks := hM.ks
  unfold msC at hc
  dsimp only at hc her hes hkr hks
  obtain ⟨kao, kcp, rfl⟩ := hkr.shape
  obtain ⟨eao, ecp, rfl⟩ := her.shape
  have q0 := h.cells hb hbl hc
  have p0 := h.c2
  go_enter Tryd.func20, Tryd.ntmps20
  go_wp2_with fail
  refine (h.num from_ ((q0 1).trans rfl) (hW.from_ (by simp)) (by omega)).mono ?_
  rintro e1 w1 ⟨rfl, f1⟩
  have q1 := f1.cells hb hbl hc
  clear q0
  go_wp2_with fail
  refine (f1.num born ((q1 2).trans rfl) hW.born (by omega)).mono ?_
  rintro e2 w2 ⟨rfl, f2⟩
  have q2 := f2.cells hb hbl hc
  clear q1
  go_wp2_with fail
  have hk7 := hW.klen
  dsimp only at hk7
  go_loopw [4, 25] (fun _ i wr => ∃ k : Nat, k ≤ known.length ∧ i = .int .i64 (k : Int) ∧ FW S w0 wr fb (l ++ Oct.enc from_ ++ Oct.enc born ++ Oct.ints (known.take k)) (N + 8 + 8 + 8 * k))
    (fun _ i _ => known.length - (intOf i).toNat)
  case atStart => exact ⟨0, by omega, rfl, by simpa [Oct.ints] using f2⟩
  case round =>
   obtain ⟨k, hk, rfl, hq⟩ := hrel
   clear q2 f2
   have q3 := hq.cells hb hbl hc
   by_cases hkl : k < known.length
   · obtain ⟨kb, ko, rfl, hkc⟩ := hkr.at_ (by omega)
     have hck := hkc k (by omega)
     have hkb : kb < w0.heap.size := World.block_lt_of_cell? w0 _ hck
     have hcell : wr.cell? ⟨kb, ko + k, none⟩ = some (.int .i64 known[k]) := by
       rw [hq.frm.cell (p := ⟨kb, ko + k, none⟩) hkb (hks kb rfl (by omega)), hck]
       simp [intsV]
     have hnk : Msg.num known[k] = true := List.all_eq_true.1 hW.known _ (List.getElem_mem hkl)
     clear hkc hck
     go_wp2_with fail
     refine (hq.num known[k] hcell hnk (by omega)).mono ?_
     rintro e3 w3 ⟨rfl, f3⟩
     go_wp2_with fail
     refine ⟨⟨k + 1, by omega, by go_num, ?_⟩, by simp [intOf]; omega⟩
     exact f3.weak (by rw [Oct.ints_snoc known k hkl]; simp only [List.append_assoc]) (by omega)
   · obtain rfl : k = known.length := by omega
     replace hq := hq.weak (N' := N + 80) (by rw [List.take_length]) (by omega)
     go_wp2_with fail
     refine (hq.views12 from_ born known view last op commit client number nonce text full base state entries _ _ hM hW (by omega)).mono ?_
     rintro e4 w4 ⟨rfl, f4⟩
     have q4 := f4.cells hb hbl hc
     clear q3
     go_wp2_with fail
     refine (tail_at ⟨12, from_, born, known, view, last, op, commit, client, number, nonce, text, full, base, state, entries⟩ _ _ true (by simp [Msg.tail]) _).mono ?_
     rintro e5 w5 ⟨rfl, ht5⟩
     have f5 := f4.no ht5
     have q5 := f5.cells hb hbl hc
     clear q4
     go_wp2_with fail
     refine (f5.num base ((q5 13).trans rfl) hW.base (by omega)).mono ?_
     rintro e6 w6 ⟨rfl, f6⟩
     have q6 := f6.cells hb hbl hc
     clear q5
     go_wp2_with fail
     refine (f6.text state ((q6 14).trans rfl) hW.state (by omega)).mono ?_
     rintro e7 w7 ⟨rfl, f7⟩
     have q7 := f7.cells hb hbl hc
     clear q6
     go_wp2_with fail
     refine (f7.entries entries _ hb ((hc 15).trans rfl) her hes hW.ents hW.elen (by omega)).mono ?_
     rintro e8 w8 ⟨rfl, f8⟩
     have q8 := f8.cells hb hbl hc
     clear q7
     go_wp2_with fail
     go_end0
     exact ⟨rfl, f8.weak (by rw [HR.out]; simp only [List.append_assoc]) (by omega)⟩

/-- All fields of a message but its kind, written. -/
theorem FW.all {S : Nat → Prop} {w0 w : World} {fb N b : Nat} {l : List UInt8} (h : FW S w0 w fb l N) (m : Ms) (kv ev : Value) (hM : MsAt S w0 b m kv ev) (hW : WOk m) (hk : kindG m = true) (hN : N ≤ 30000000000000) :
    Calls Tryd.prog 20 #[.pointer (some ⟨b, 0, none⟩), .pointer (some ⟨fb, 0, none⟩)] w (FWP S w0 fb (l ++ restB m) (N + 5000000)) := by
  have hk' := kinds hk
  clear hk
  obtain ⟨kind, from_, born, known, view, last, op, commit, client, number, nonce, text, full, base, state, entries⟩ := m
  dsimp only at hk'
  rcases hk' with rfl | rfl | rfl | rfl | rfl | rfl | rfl | rfl | rfl | rfl | rfl | rfl
  · exact h.all1 from_ born known view last op commit client number nonce text full base state entries kv ev hM hW hN
  · exact h.all2 from_ born known view last op commit client number nonce text full base state entries kv ev hM hW hN
  · exact h.all3 from_ born known view last op commit client number nonce text full base state entries kv ev hM hW hN
  · exact h.all4 from_ born known view last op commit client number nonce text full base state entries kv ev hM hW hN
  · exact h.all5 from_ born known view last op commit client number nonce text full base state entries kv ev hM hW hN
  · exact h.all6 from_ born known view last op commit client number nonce text full base state entries kv ev hM hW hN
  · exact h.all7 from_ born known view last op commit client number nonce text full base state entries kv ev hM hW hN
  · exact h.all8 from_ born known view last op commit client number nonce text full base state entries kv ev hM hW hN
  · exact h.all9 from_ born known view last op commit client number nonce text full base state entries kv ev hM hW hN
  · cases full
    · exact h.all10f from_ born known view last op commit client number nonce text base state entries kv ev hM hW hN
    · exact h.all10t from_ born known view last op commit client number nonce text base state entries kv ev hM hW hN
  · exact h.all11 from_ born known view last op commit client number nonce text full base state entries kv ev hM hW hN
  · exact h.all12 from_ born known view last op commit client number nonce text full base state entries kv ev hM hW hN
end Go.Proofs.YtaejcejfpcjifaaDoor
