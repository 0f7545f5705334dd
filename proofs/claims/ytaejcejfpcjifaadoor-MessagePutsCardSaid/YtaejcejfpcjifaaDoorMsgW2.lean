/- The entries of a message, written; whether it has a tail; the fields of a view, written. -/
import Derived.Test.YtaejcejfpcjifaaDoorMsgW1
import Derived.Test.YtaejcejfpcjifaaDoorOpenG
namespace Go.Proofs.YtaejcejfpcjifaaDoor
open Go.RowKit
open Msg

theorem num_len {n : Nat} (h : n ≤ 64) : num (n : Int) = true := by
  simp only [num, Bool.and_eq_true, decide_eq_true_eq]; omega
theorem entsB_snoc (es : List Ent) (k : Nat) (h : k < es.length) : entsB (es.take (k + 1)) = entsB (es.take k) ++ entB es[k] := by
  rw [entsB, entsB, List.take_succ_eq_append_getElem h, List.flatMap_append]
  simp

set_option maxRecDepth 100000 in
set_option maxHeartbeats 1000000 in
theorem FW.entries {S : Nat → Prop} {w0 w : World} {fb N b j : Nat} {l : List UInt8} (h : FW S w0 w fb l N) (es : List Ent) (ev : Value) (hb : ¬ S b) (hc0 : w0.cell? ⟨b, j, none⟩ = some ev) (her : RdL w0 ev 3 entV es) (hs : ∀ k, ev.ownBlock = some k → 0 < es.length → ¬ S k)
    (hg : es.all entG = true) (hlen : es.length ≤ 64) (hN : N ≤ 40000000000000) :
    Calls Tryd.prog 43 #[.pointer (some ⟨fb, 0, none⟩), .pointer (some ⟨b, j, none⟩)] w (FWP S w0 fb (l ++ (Oct.enc es.length ++ entsB es)) (N + 8 + 65560 * 64)) := by
  have hc := h.cell hb hc0
  obtain ⟨ao, c, rfl⟩ := her.shape
  have h1 := h.no ((Frm.refl No w).alloc (.cells #[.int .i64 (es.length : Int)] 3))
  have k1 : (w.alloc (.cells #[.int .i64 (es.length : Int)] 3)).cell? ⟨w.heap.size, 0, none⟩ = some (.int .i64 (es.length : Int)) := by rw [World.cell?_alloc_at _ _ _ _ rfl]; rfl
  go_enter Tryd.func43, Tryd.ntmps43
  go_wp2_with fail
  refine (h1.num _ k1 (num_len hlen) (by omega)).mono ?_
  rintro e w1 ⟨rfl, f1⟩
  have hc1 := f1.cell hb hc0
  have hp1 := f1.c2
  go_wp2_with fail
  go_loopw [5, 22] (fun _ i wr => ∃ k : Nat, k ≤ es.length ∧ i = .int .i64 (k : Int) ∧ FW S w0 wr fb (l ++ Oct.enc es.length ++ entsB (es.take k)) (N + 8 + 65560 * k))
    (fun _ i _ => es.length - (intOf i).toNat)
  case atStart => exact ⟨0, by omega, rfl, by simpa [entsB] using f1⟩
  case round =>
    obtain ⟨k, hk, rfl, hq⟩ := hrel
    have hcq := hq.cell hb hc0
    by_cases hkl : k < es.length
    · obtain ⟨b', o', rfl, hcc⟩ := her.at_ (by omega)
      have hck := hcc k hkl
      have hb' : b' < w0.heap.size := World.block_lt_of_cell? (u := .int .i64 es[k].client) w0 ⟨b', o' + (k * 3 + 0), none⟩ (by rw [hck 0 (by omega)]; rfl)
      have hS' := hs b' rfl (by omega)
      have hcell : ∀ i, i < 3 → wr.cell? ⟨b', o' + k * 3 + i, none⟩ = (entV es[k])[i]? := fun i hi => by
        rw [hq.frm.cell (p := ⟨b', o' + k * 3 + i, none⟩) hb' hS', Nat.add_assoc]
        exact hck i hi
      have hge : entG es[k] = true := List.all_eq_true.1 hg _ (List.getElem_mem hkl)
      clear hcc hck
      go_wp2_with (go_at_call 61; refine (hq.one es[k] hS' hb' hcell hge (by omega)).mono ?_; rintro e w3 ⟨rfl, f3⟩)
      refine ⟨⟨k + 1, by omega, by go_num, ?_⟩, by simp [intOf]; omega⟩
      exact f3.weak (by rw [entsB_snoc es k hkl]; simp only [List.append_assoc]) (by omega)
    · obtain rfl : k = es.length := by omega
      go_wp2_with fail
      go_end0
      refine ⟨rfl, ?_⟩
      exact hq.weak (by rw [List.take_length, List.append_assoc]) (by omega)

/-- A message's cells; as one value. -/
def msC (m : Ms) (kv ev : Value) : Array Value := #[.int .i64 m.kind, .int .i64 m.from_, .int .i64 m.born, kv, .int .i64 m.view, .int .i64 m.last, .int .i64 m.op, .int .i64 m.commit, .int .i64 m.client, .int .i64 m.number, .int .i64 m.nonce, .string ⟨m.text.toArray⟩, .bool m.full, .int .i64 m.base, .string ⟨m.state.toArray⟩, ev]
def msV (m : Ms) (kv ev : Value) : Value := .agg (msC m kv ev)
def msL (m : Ms) (kv ev : Value) : List Value := (msC m kv ev).toList
/-- What a message's lists read as. -/
structure MsR (w : World) (m : Ms) (kv ev : Value) : Prop where
  kr : Rd w kv m.known.length 1 (intsV m.known)
  er : RdL w ev 3 entV m.entries
theorem MsR.no {w w' : World} {m : Ms} {kv ev : Value} (h : MsR w m kv ev) (hf : Frm No w w') : MsR w' m kv ev := ⟨h.kr.frm hf (fun _ _ h => h), h.er.frm (fun _ _ => rfl) hf (fun _ _ h => h)⟩


set_option maxRecDepth 100000 in
set_option maxHeartbeats 1000000 in
theorem tail_any (m : Ms) (kv ev : Value) (w : World) :
    Calls Tryd.prog 42 #[msV m kv ev] w fun e w' => e = .returned (.bool (Msg.tail m)) ∧ Frm No w w' := by
  have HT : Hid (Msg.tail m = (decide (m.kind = 7) || decide (m.kind = 8) || decide (m.kind = 12) || (decide (m.kind = 10) && m.full))) := hid rfl
  unfold msV msC
  obtain ⟨kind, from_, born, known, view, last, op, commit, client, number, nonce, text, full, base, state, entries⟩ := m
  dsimp only at *
  by_cases h7 : kind = 7
  · subst h7
    go_enter Tryd.func42, Tryd.ntmps42
    go_wp2_with fail
    go_ret
    exact ⟨by rw [HT.out]; simp, (Frm.refl No w).alloc _⟩
  by_cases h8 : kind = 8
  · subst h8
    go_enter Tryd.func42, Tryd.ntmps42
    go_wp2_with fail
    go_ret
    exact ⟨by rw [HT.out]; simp, (Frm.refl No w).alloc _⟩
  by_cases h12 : kind = 12
  · subst h12
    go_enter Tryd.func42, Tryd.ntmps42
    go_wp2_with fail
    go_ret
    exact ⟨by rw [HT.out]; simp, (Frm.refl No w).alloc _⟩
  have e7 : (kind == 7) = false := by simpa using h7
  have e8 : (kind == 8) = false := by simpa using h8
  have e12 : (kind == 12) = false := by simpa using h12
  have HT' : Hid (Msg.tail ⟨kind, from_, born, known, view, last, op, commit, client, number, nonce, text, full, base, state, entries⟩ = (decide (kind = 10) && full)) := hid (by rw [HT.out]; simp [h7, h8, h12])
  clear h7 h8 h12 HT
  by_cases h10 : kind = 10
  · subst h10
    go_enter Tryd.func42, Tryd.ntmps42
    go_wp2_with fail
    go_ret
    exact ⟨by rw [HT'.out]; simp, (Frm.refl No w).alloc _⟩
  · have e10 : (kind == 10) = false := by simpa using h10
    go_enter Tryd.func42, Tryd.ntmps42
    go_wp2_with fail
    go_ret
    exact ⟨by rw [HT'.out]; simp [h10], (Frm.refl No w).alloc _⟩
end Go.Proofs.YtaejcejfpcjifaaDoor
