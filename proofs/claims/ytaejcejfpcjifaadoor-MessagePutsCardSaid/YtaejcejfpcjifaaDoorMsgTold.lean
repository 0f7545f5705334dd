/- A message of the program, told as the document's. Printed by a program (msgtold.py). -/
import Derived.Test.YtaejcejfpcjifaaDoorMsgMake
namespace Go.Proofs.YtaejcejfpcjifaaDoor
open Go.RowKit
open Msg

theorem built_t (k f b v l o c i n x s : Int) (t st : List UInt8) (u : Bool) (ao : Option Addr) (p q : Nat) : Tryd.prog.built 34 [(0, .int .i64 k), (1, .int .i64 f), (2, .int .i64 b), (3, .slice ao p q), (4, .int .i64 v), (5, .int .i64 l), (6, .int .i64 o), (7, .int .i64 c), (8, .int .i64 i), (9, .int .i64 n), (10, .int .i64 x), (11, .string ⟨t.toArray⟩), (12, .bool u), (13, .int .i64 s), (14, .string ⟨st.toArray⟩)] = some #[.int .i64 k, .int .i64 f, .int .i64 b, .slice ao p q, .int .i64 v, .int .i64 l, .int .i64 o, .int .i64 c, .int .i64 i, .int .i64 n, .int .i64 x, .string ⟨t.toArray⟩, .bool u, .int .i64 s, .string ⟨st.toArray⟩, .slice none 0 0] := by kernel_rfl

set_option maxRecDepth 100000 in
set_option maxHeartbeats 8000000 in
theorem told_any (m : Ms) (kv ev : Value) (w : World) (hr : MsR w m kv ev) (hl : m.entries.length ≤ 1000000) :
    Calls Tryd.prog 13 #[msV m kv ev] w fun e w' => ∃ ev2, e = .returned (msV m kv ev2) ∧ MsR w' m kv ev2 ∧ Frm No w w' := by
  have HR := hid hr
  obtain ⟨kao, kcp, rfl⟩ := hr.kr.shape
  obtain ⟨eao, ecp, rfl⟩ := hr.er.shape
  obtain ⟨i2, hi2, hz20, hz21, hz22⟩ := info_parts info_rent'
  clear hr
  unfold msV msC
  go_enter Tryd.func13, Tryd.ntmps13
  go_upto_region 1 with fail
  have X0 := Box.new (Frm.refl No w) [.int .i64 m.kind, .int .i64 m.from_, .int .i64 m.born, .slice kao m.known.length kcp, .int .i64 m.view, .int .i64 m.last, .int .i64 m.op, .int .i64 m.commit, .int .i64 m.client, .int .i64 m.number, .int .i64 m.nonce, .string ⟨m.text.toArray⟩, .bool m.full, .int .i64 m.base, .string ⟨m.state.toArray⟩, .slice eao m.entries.length ecp] 31
  have X1 := Box.new X0.frm [.int .i64 0, .int .i64 0, .int .i64 0, .slice none 0 0, .int .i64 0, .int .i64 0, .int .i64 0, .int .i64 0, .int .i64 0, .int .i64 0, .int .i64 0, .string ⟨#[]⟩, .bool false, .int .i64 0, .string ⟨#[]⟩, .slice none 0 0] 34
  have Y0 := X0.no ((Frm.refl No _).alloc (.cells #[.int .i64 0, .int .i64 0, .int .i64 0, .slice none 0 0, .int .i64 0, .int .i64 0, .int .i64 0, .int .i64 0, .int .i64 0, .int .i64 0, .int .i64 0, .string ⟨#[]⟩, .bool false, .int .i64 0, .string ⟨#[]⟩, .slice none 0 0] 34))
  clear X0
  simp only [World.size_alloc] at X1
  obtain ⟨W0, hW0⟩ : ∃ W, W = ((w.alloc (.cells #[.int .i64 m.kind, .int .i64 m.from_, .int .i64 m.born, .slice kao m.known.length kcp, .int .i64 m.view, .int .i64 m.last, .int .i64 m.op, .int .i64 m.commit, .int .i64 m.client, .int .i64 m.number, .int .i64 m.nonce, .string ⟨m.text.toArray⟩, .bool m.full, .int .i64 m.base, .string ⟨m.state.toArray⟩, .slice eao m.entries.length ecp] 31)).alloc (.cells #[.int .i64 0, .int .i64 0, .int .i64 0, .slice none 0 0, .int .i64 0, .int .i64 0, .int .i64 0, .int .i64 0, .int .i64 0, .int .i64 0, .int .i64 0, .string ⟨#[]⟩, .bool false, .int .i64 0, .string ⟨#[]⟩, .slice none 0 0] 34)) := ⟨_, rfl⟩
  rw [← hW0] at X1 Y0 ⊢
  clear hW0
  obtain ⟨b, hb⟩ : ∃ b, w.heap.size = b := ⟨_, rfl⟩
  rw [hb] at X1 Y0
  simp only [hb]
  have x := Y0.cell
  go_upto_region 2 with (refine wpList_built rfl 34 _ rfl #[.int .i64 m.kind, .int .i64 m.from_, .int .i64 m.born, .slice kao m.known.length kcp, .int .i64 m.view, .int .i64 m.last, .int .i64 m.op, .int .i64 m.commit, .int .i64 m.client, .int .i64 m.number, .int .i64 m.nonce, .string ⟨m.text.toArray⟩, .bool m.full, .int .i64 m.base, .string ⟨m.state.toArray⟩, .slice none 0 0] [(0, .int .i64 m.kind), (1, .int .i64 m.from_), (2, .int .i64 m.born), (3, .slice kao m.known.length kcp), (4, .int .i64 m.view), (5, .int .i64 m.last), (6, .int .i64 m.op), (7, .int .i64 m.commit), (8, .int .i64 m.client), (9, .int .i64 m.number), (10, .int .i64 m.nonce), (11, .string ⟨m.text.toArray⟩), (12, .bool m.full), (13, .int .i64 m.base), (14, .string ⟨m.state.toArray⟩)] (by simp [Act.eval]) (built_t _ _ _ _ _ _ _ _ _ _ _ _ _ _ _ _ _) ?_)
  have hWs : ∃ WB, WB = W0.alloc (.cells #[.int .i64 m.kind, .int .i64 m.from_, .int .i64 m.born, .slice kao m.known.length kcp, .int .i64 m.view, .int .i64 m.last, .int .i64 m.op, .int .i64 m.commit, .int .i64 m.client, .int .i64 m.number, .int .i64 m.nonce, .string ⟨m.text.toArray⟩, .bool m.full, .int .i64 m.base, .string ⟨m.state.toArray⟩, .slice none 0 0] 34) := ⟨_, rfl⟩
  have hB := Box.new Y0.frm [.int .i64 m.kind, .int .i64 m.from_, .int .i64 m.born, .slice kao m.known.length kcp, .int .i64 m.view, .int .i64 m.last, .int .i64 m.op, .int .i64 m.commit, .int .i64 m.client, .int .i64 m.number, .int .i64 m.nonce, .string ⟨m.text.toArray⟩, .bool m.full, .int .i64 m.base, .string ⟨m.state.toArray⟩, .slice none 0 0] 34
  have hA := Y0.no ((Frm.refl No W0).alloc (.cells #[.int .i64 m.kind, .int .i64 m.from_, .int .i64 m.born, .slice kao m.known.length kcp, .int .i64 m.view, .int .i64 m.last, .int .i64 m.op, .int .i64 m.commit, .int .i64 m.client, .int .i64 m.number, .int .i64 m.nonce, .string ⟨m.text.toArray⟩, .bool m.full, .int .i64 m.base, .string ⟨m.state.toArray⟩, .slice none 0 0] 34))
  have hC := X1.no ((Frm.refl No W0).alloc (.cells #[.int .i64 m.kind, .int .i64 m.from_, .int .i64 m.born, .slice kao m.known.length kcp, .int .i64 m.view, .int .i64 m.last, .int .i64 m.op, .int .i64 m.commit, .int .i64 m.client, .int .i64 m.number, .int .i64 m.nonce, .string ⟨m.text.toArray⟩, .bool m.full, .int .i64 m.base, .string ⟨m.state.toArray⟩, .slice none 0 0] 34))
  have hBl : b + 1 < W0.heap.size := X1.lC
  obtain ⟨WB, hW1⟩ := hWs
  rw [← hW1] at hB hA hC ⊢
  clear hW1 x X1 Y0
  generalize W0.heap.size = B at *
  have hBz := hB.lC
  have HA := hid hA
  have HC := hid hC
  have HB0 := hid hB
  clear hA hC hB
  go_wp2_with fail
  go_loopw [4] (fun i wr => ∃ (j : Nat) (e2 : Value), j ≤ m.entries.length ∧ i = .int .i64 (j : Int) ∧ Box w wr B (msL m (.slice kao m.known.length kcp) e2) ∧ wr.ownsRow WB.heap.size 49 3 e2 j (entsV (m.entries.take j)) ∧ Frm (One B) WB wr) (fun i _ => m.entries.length - (intOf i).toNat)
  case atStart => exact ⟨0, _, by omega, rfl, HB0.out, World.ownsRow_nil _ _ _ _, Frm.refl _ _⟩
  case round =>
    obtain ⟨j, e2, hj, rfl, hB, hO, hFB⟩ := hrel
    obtain ⟨ao2, c2, rfl⟩ := ownsRow_shape hO
    have hAr := HA.out.other hFB (fun e => by have e : b = B := e; omega) (fun k hk => by have hk : k = B := hk; omega)
    have x := hAr.cell
    by_cases hjl : j < m.entries.length
    · as_aux_lemma =>
      have hjz : (j : Int) < (m.entries.length : Int) := by omega
      obtain ⟨eb, eo, rfl, hec⟩ := (HR.out.er.frm (fun _ _ => rfl) hB.frm (fun _ _ h => h)).at_ (by omega)
      obtain ⟨y, hyl⟩ : ∃ y, m.entries[j] = y := ⟨_, rfl⟩
      have q0 := hec j hjl 0 (by omega)
      have q1 := hec j hjl 1 (by omega)
      have q2 := hec j hjl 2 (by omega)
      rw [hyl] at q0 q1 q2
      have hebw : eb < WB.heap.size := by
        obtain ⟨b', o', e, hc'⟩ := (HR.out.er.frm (fun _ _ => rfl) HB0.out.frm (fun _ _ h => h)).at_ (by omega)
        simp only [Option.some.injEq, Addr.mk.injEq] at e
        obtain ⟨rfl, rfl, -⟩ := e
        exact World.block_lt_of_cell? (u := .int .i64 m.entries[j].client) WB ⟨eb, eo + (j * 3 + 0), none⟩ (by rw [hc' j hjl 0 (by omega)]; rfl)
      have nO : ∀ k, k < WB.heap.size → ¬ Own (.slice ao2 j c2) k := fun k hk e => by have := (hO.lt k e).1; omega
      have SK : Hid (∀ w', Frm (Own (.slice ao2 j c2)) wr w' → w'.cell? ⟨B, 15, none⟩ = some (.slice ao2 j c2) ∧ w'.cell? ⟨b, 15, none⟩ = some (.slice (some ⟨eb, eo, none⟩) m.entries.length ecp) ∧ w'.cell? ⟨eb, eo + j * 3, none⟩ = some (.int .i64 y.client) ∧ w'.cell? ⟨eb, eo + j * 3 + 1, none⟩ = some (.int .i64 y.number) ∧ w'.cell? ⟨eb, eo + j * 3 + 2, none⟩ = some (.string ⟨y.text.toArray⟩)) := by
        refine hid fun w' hf => ⟨(hf.cell (p := ⟨B, 15, none⟩) hB.lC (nO B hBz)).trans (hB.cell 15), (hf.cell (p := ⟨b, 15, none⟩) hAr.lC (nO b (by omega))).trans (x 15), ?_, ?_, ?_⟩
        · exact (hf.cell (World.block_lt_of_cell? wr _ q0) (nO eb hebw)).trans q0
        · exact (hf.cell (World.block_lt_of_cell? wr _ q1) (nO eb hebw)).trans q1
        · exact (hf.cell (World.block_lt_of_cell? wr _ q2) (nO eb hebw)).trans q2
      have hWz := hFB.size
      have HB := hid hB
      have HO := hid hO
      have HFB := hid hFB
      clear hec q0 q1 q2 hB hO hFB HR HB0 HC hAr HA nO
      go_upto_region 5 with fail
      clear x
      refine wp_region_late (fun w' => w'.cell? ⟨B, 15, none⟩ = some (.slice ao2 j c2) ∧ w'.cell? ⟨b, 15, none⟩ = some (.slice (some ⟨eb, eo, none⟩) m.entries.length ecp) ∧ w'.cell? ⟨eb, eo + j * 3, none⟩ = some (.int .i64 y.client) ∧ w'.cell? ⟨eb, eo + j * 3 + 1, none⟩ = some (.int .i64 y.number) ∧ w'.cell? ⟨eb, eo + j * 3 + 2, none⟩ = some (.string ⟨y.text.toArray⟩)) [10] (by kernel_rfl) (SK.out _ (Frm.refl _ _).drew) (fun hHeld => ?_)
      refine wpLate_take0 (i := 0) (oi := _) (v := _) rfl (by kernel_rfl) (by kernel_rfl) (by kernel_rfl) (by kernel_rfl) (fun _ _ _ h => h) (Or.inl ⟨by rfl, by intro w _; go_simp; all_goals with_reducible rfl⟩) (fun _ => by assumption) ?_
      (try simp only [Act.put, List.getElem_toArray, List.getElem_cons_zero, List.setIfInBounds_toArray, List.set_cons_zero, List.set_cons_succ])
      refine wpLate_take [8, 10] (i := 1) (oi := _) (v := _) rfl (by kernel_rfl) (by kernel_rfl) (by kernel_rfl) (by kernel_rfl) (by kernel_rfl) (fun _ _ _ h => h) (Or.inl ⟨by rfl, by intro w hSw; (try dsimp only at hSw); go_simp; all_goals with_reducible rfl⟩) (by assumption) ?_
      (try simp only [Act.put, List.getElem_toArray, List.getElem_cons_succ, List.getElem_cons_zero, List.setIfInBounds_toArray, List.set_cons_zero, List.set_cons_succ])
      refine wpLate_take0 (i := 2) (oi := _) (v := _) rfl (by kernel_rfl) (by kernel_rfl) (by kernel_rfl) (by kernel_rfl) (fun _ _ _ h => h) (Or.inl ⟨by rfl, by intro w _; go_simp; all_goals with_reducible rfl⟩) (fun _ => by assumption) ?_
      (try simp only [Act.put, List.getElem_toArray, List.getElem_cons_succ, List.getElem_cons_zero, List.setIfInBounds_toArray, List.set_cons_zero, List.set_cons_succ])
      refine wpLate_take [5, 6, 7, 8, 10] (i := 3) (oi := _) (v := _) rfl (by kernel_rfl) (by kernel_rfl) (by kernel_rfl) (by kernel_rfl) (by kernel_rfl) (fun _ _ _ h => h) (Or.inl ⟨by rfl, by intro w hSw; (try dsimp only at hSw); go_simp; all_goals with_reducible rfl⟩) (by assumption) ?_
      (try simp only [Act.put, List.getElem_toArray, List.getElem_cons_succ, List.getElem_cons_zero, List.setIfInBounds_toArray, List.set_cons_zero, List.set_cons_succ])
      refine wpLate_take0 (i := 4) (oi := _) (v := _) rfl (by kernel_rfl) (by kernel_rfl) (by kernel_rfl) (by kernel_rfl) (fun _ _ _ h => h) (Or.inl ⟨by rfl, by intro w _; go_simp; all_goals with_reducible rfl⟩) (fun _ => by assumption) ?_
      (try simp only [Act.put, List.getElem_toArray, List.getElem_cons_succ, List.getElem_cons_zero, List.setIfInBounds_toArray, List.set_cons_zero, List.set_cons_succ])
      refine wpLate_take0 (i := 5) (oi := _) (v := _) rfl (by kernel_rfl) (by kernel_rfl) (by kernel_rfl) (by kernel_rfl) (fun _ _ _ h => h) (Or.inl ⟨by rfl, by intro w _; go_simp; all_goals with_reducible rfl⟩) (fun _ => by assumption) ?_
      (try simp only [Act.put, List.getElem_toArray, List.getElem_cons_succ, List.getElem_cons_zero, List.setIfInBounds_toArray, List.set_cons_zero, List.set_cons_succ])
      refine wpLate_take [7, 8, 10] (i := 6) (oi := _) (v := _) rfl (by kernel_rfl) (by kernel_rfl) (by kernel_rfl) (by kernel_rfl) (by kernel_rfl) (fun _ _ _ h => h) (Or.inl ⟨by rfl, by intro w hSw; (try dsimp only at hSw); go_simp; all_goals with_reducible rfl⟩) (by assumption) ?_
      (try simp only [Act.put, List.getElem_toArray, List.getElem_cons_succ, List.getElem_cons_zero, List.setIfInBounds_toArray, List.set_cons_zero, List.set_cons_succ])
      refine wpLate_ready (rs := [7]) (by kernel_rfl) (by simp) ?_
      refine (AllReadyL.cons (i := 7) rfl (fun K hK => ?_) AllReadyL.nil)
      simp only [List.getElem_toArray, List.getElem_cons_succ, List.getElem_cons_zero]
      go_simp
      refine hK.out _ _ (SK.out _ (by repeat (first | with_reducible exact Frm.refl _ _ | with_reducible exact G4 | with_reducible refine Frm.drew ?_ | with_reducible refine Frm.alloc ?_ _))) (fun hHeld => ?_)
      clear hK K
      (try simp only [Act.put, List.getElem_toArray, List.getElem_cons_succ, List.getElem_cons_zero, List.setIfInBounds_toArray, List.set_cons_zero, List.set_cons_succ])
      have FX : Frm No wr (wr.alloc (.cells #[.int .i64 y.client, .int .i64 y.number, .string ⟨y.text.toArray⟩] 49)).drew := ((Frm.refl No wr).alloc _).drew
      refine wpLate_ready (rs := [8]) (by kernel_rfl) (by simp) ?_
      refine (AllReadyL.cons (i := 8) rfl (fun K hK => ?_) AllReadyL.nil)
      refine step_append_own rfl (.tmp 44) (.tmp 50) 32 32 rfl WB.heap.size 49 i2 _ 3 32 Tryd.underlying32 hi2 hz20 hz21 hz22 rfl (.slice ao2 j c2) j _ (by simp [Act.eval]) (Frm.row FX HO.out (fun _ _ h => h)) (.slice (some ⟨wr.heap.size, 0, none⟩) 1 1) 1 (entV y) (by simp [Act.eval]) (src_ent Tryd.underlying32 (fun q => ((Box.new (Frm.refl No wr) (entV y) 49).no ((Frm.refl No _).drew)).cell q)) (by unfold maxLen; omega) (by omega) (by have := hWz; have := FX.size; omega) ?_; intro v4 w4 hown4 hf4 hv4; obtain ⟨ao4, c4, rfl⟩ := ownsRow_shape hown4; have G4 : Frm (Own (.slice ao2 j c2)) wr w4 := FX.any.then_ hf4
      refine hK.out _ _ (SK.out _ G4) (fun hHeld => ?_)
      clear hK K
      (try simp only [Act.put, List.getElem_toArray, List.getElem_cons_succ, List.getElem_cons_zero, List.setIfInBounds_toArray, List.set_cons_zero, List.set_cons_succ])
      refine wpLate_take0 (i := 9) (oi := _) (v := _) rfl (by kernel_rfl) (by kernel_rfl) (by kernel_rfl) (by kernel_rfl) (fun _ _ _ h => h) (Or.inl ⟨by rfl, by intro w _; go_simp; all_goals with_reducible rfl⟩) (fun _ => by assumption) ?_
      (try simp only [Act.put, List.getElem_toArray, List.getElem_cons_succ, List.getElem_cons_zero, List.setIfInBounds_toArray, List.set_cons_zero, List.set_cons_succ])
      have kB : w4.cell? ⟨B, 15, none⟩ = some (.slice ao2 j c2) := (SK.out _ G4).1
      have bB4 := (HB.out.no FX).other hf4 (fun e => by have := (HO.out.lt _ e).1; omega) (fun k hk => by have := (HO.out.lt k hk).1; omega)
      have zB := bB4.fr 15
      refine wpLate_ready (rs := [10]) (by kernel_rfl) (by simp) ?_
      refine (AllReadyL.late (i := 10) rfl (by kernel_rfl) (fun K hK => ?_) AllReadyL.nil)
      simp only [List.getElem_toArray, List.getElem_cons_succ, List.getElem_cons_zero]
      go_simp
      refine hK.out _ _ ?_
      clear hK K
      (try simp only [Act.put, List.getElem_toArray, List.getElem_cons_succ, List.getElem_cons_zero, List.setIfInBounds_toArray, List.set_cons_zero, List.set_cons_succ])
      refine wpLate_done (by kernel_rfl) ?_ _
      go_wp2_with fail
      have stB : Frm (One B) w4 (w4.setCell ⟨B, 15, none⟩ (.slice ao4 (j + 1) c4)) := setCell_own _
      refine ⟨⟨j + 1, _, by omega, by go_num, bB4.set 15 (by rw [msL_len']; omega) (.slice ao4 (j + 1) c4), ?_, ?_⟩, by simp only [intOf]; omega⟩
      · rw [ents_snoc hjl, hyl]
        exact stB.row hown4 (fun k hk e => by have e : k = B := e; have := (hown4.lt k hk).1; omega)
      · exact (((HFB.out.thenNo FX).trans hf4 (fun _ _ h => h) (fun i hi e => by have := (HO.out.lt i e).1; omega)).trans stB (fun _ _ h => h) (fun _ _ e => e))

    · obtain rfl : j = m.entries.length := by omega
      as_aux_lemma =>
      have hjz : ¬ (m.entries.length : Int) < (m.entries.length : Int) := by omega
      have hCr := HC.out.other hFB (fun e => by have e : b + 1 = B := e; omega) (fun k hk => by have hk : k = B := hk; have := HB0.out.hC; omega)
      rw [List.take_length] at hO
      have TC := hCr.thereA (vs := msL m (.slice kao m.known.length kcp) (.slice ao2 m.entries.length c2)) rfl
      have RB := hB.range
      have hF9 : Frm (One (b + 1)) wr (wr.setCells (b + 1) 0 (msL m (.slice kao m.known.length kcp) (.slice ao2 m.entries.length c2))) := setCells_own _ _ _ _
      have hC9 := hCr.setAll (msL m (.slice kao m.known.length kcp) (.slice ao2 m.entries.length c2)) rfl
      have hM9 : MsR (wr.setCells (b + 1) 0 (msL m (.slice kao m.known.length kcp) (.slice ao2 m.entries.length c2))) m (.slice kao m.known.length kcp) (.slice ao2 m.entries.length c2) := by
        refine ⟨HR.out.kr.frm hC9.frm (fun _ _ h => h), (RdL.ofOwn hO).frm (fun _ _ => rfl) hF9 (fun k hk e => ?_)⟩
        have e : k = b + 1 := e
        have := (hO.lt k hk).1
        omega
      have hN9 := hC9.frm
      have z := hC9.cell
      obtain ⟨w9, h9⟩ : ∃ w9, wr.setCells (b + 1) 0 (msL m (.slice kao m.known.length kcp) (.slice ao2 m.entries.length c2)) = w9 := ⟨_, rfl⟩
      rw [h9] at z hM9 hN9
      clear hF9 hC9 hCr hB hO hFB HR HB0 HC HA hAr
      go_wp2_with (first | refine wpList_load_mid rfl 34 (.tmp 3) rfl B 0 (by simp [Act.eval]) (msL m (.slice kao m.known.length kcp) (.slice ao2 m.entries.length c2)) _ RB Tryd.underlying34 (by rfl) (size_b' (msL_len' _ _ _)) ?_ | (refine wpList_store_mid rfl 34 (.tmp 2) (.tmp 53) rfl (b + 1) 0 (msL m (.slice kao m.known.length kcp) (.slice ao2 m.entries.length c2)).toArray (by simp [Act.eval, Act.put]) (by simp [Act.eval, Act.put]) TC (size_b (msL_len' _ _ _)) (msL_one _ _ _ _ _ _ _) ?_; rw [List.toList_toArray, h9]))
      have z1 : ∀ q, w9.cell? ⟨b + 1, q, none⟩ = ([.int .i64 m.kind, .int .i64 m.from_, .int .i64 m.born, .slice kao m.known.length kcp, .int .i64 m.view, .int .i64 m.last, .int .i64 m.op, .int .i64 m.commit, .int .i64 m.client, .int .i64 m.number, .int .i64 m.nonce, .string ⟨m.text.toArray⟩, .bool m.full, .int .i64 m.base, .string ⟨m.state.toArray⟩, .slice ao2 m.entries.length c2] : List Value)[q]? := z
      clear z x
      refine bodyPost_ret (v := .agg #[.int .i64 m.kind, .int .i64 m.from_, .int .i64 m.born, .slice kao m.known.length kcp, .int .i64 m.view, .int .i64 m.last, .int .i64 m.op, .int .i64 m.commit, .int .i64 m.client, .int .i64 m.number, .int .i64 m.nonce, .string ⟨m.text.toArray⟩, .bool m.full, .int .i64 m.base, .string ⟨m.state.toArray⟩, .slice ao2 m.entries.length c2]) (by simp [results, Tryd.results13, go_sem, z1]) rfl ⟨.slice ao2 m.entries.length c2, rfl, hM9, hN9⟩
end Go.Proofs.YtaejcejfpcjifaaDoor
