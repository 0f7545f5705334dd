/- Whether a message has nothing but its kind's fields: it is written and read again. -/
import Derived.Test.YtaejcejfpcjifaaDoorMsgG4
import Derived.Test.YtaejcejfpcjifaaDoorMsgR8
import Derived.Deep.RegionWith
import Derived.Deep.Cut
import Derived.Deep.CutRange
import Derived.Deep.OwnRows
namespace Go.Proofs.YtaejcejfpcjifaaDoor
open Go.RowKit
open Msg

theorem msL_len (m : Ms) (kv ev : Value) : (msL m kv ev).length = 16 := rfl
/-- At block cb lies the message, its lists copied: since W nothing else has changed. -/
structure Cloned (W : World) (m : Ms) (cb : Nat) (wq : World) : Prop where
  ex : ∃ kv ev, BC wq cb (msL m kv ev) ∧ Rd wq kv m.known.length 1 (intsV m.known) ∧ RdL wq ev 3 entV m.entries ∧ (∀ k, kv.ownBlock = some k → W.heap.size ≤ k) ∧ (∀ k, ev.ownBlock = some k → W.heap.size ≤ k)
  frm : Frm (One cb) W wq
theorem clone_end {W w2 : World} {m : Ms} {cb : Nat} {kv0 ev0 kv ev : Value} (hb : BC W cb (msL m kv0 ev0)) (hf : Frm No W w2) (hk : Rd w2 kv m.known.length 1 (intsV m.known)) (he : RdL w2 ev 3 entV m.entries)
    (ok : ∀ k, kv.ownBlock = some k → W.heap.size ≤ k) (oe : ∀ k, ev.ownBlock = some k → W.heap.size ≤ k) : Cloned W m cb ((w2.setCell ⟨cb, 3, none⟩ kv).setCell ⟨cb, 15, none⟩ ev) := by
  have hl : cb < W.heap.size := World.block_lt_of_cell? W _ (hb.at_ (j := 0) (by simp [msL_len]))
  have h1 := (hb.frm hl hf (fun h => h)).set 3 (by simp [msL_len]) kv
  have h2 := h1.set 15 (by simp [msL_len]) ev
  have hF : Frm (One cb) w2 ((w2.setCell ⟨cb, 3, none⟩ kv).setCell ⟨cb, 15, none⟩ ev) := Frm.setCell (p := ⟨cb, 15, none⟩) (Frm.setCell (p := ⟨cb, 3, none⟩) (Frm.refl (One cb) w2) (fun _ => rfl) _) (fun _ => rfl) _
  exact ⟨⟨kv, ev, h2, hk.frm hF (fun k hk e => by have := ok k hk; have e : k = cb := e; omega), he.frm (fun _ _ => rfl) hF (fun k hk e => by have := oe k hk; have e : k = cb := e; omega), ok, oe⟩, hf.any.then_ hF⟩
theorem Frm.wide {S : Nat → Prop} {w a b : World} (h : Frm No w a) (k : Frm S a b) (hS : ∀ i, S i → w.heap.size ≤ i) : Frm No w b :=
  h.trans k (fun _ _ h => h) (fun i hi s => by have := hS i s; omega)
theorem proj_lens (m : Ms) : (proj m).known.length ≤ m.known.length ∧ (proj m).entries.length ≤ m.entries.length := by
  unfold proj
  dsimp only
  constructor
  · split <;> simp
  · split <;> simp
theorem BC.newAt (w : World) (cs : List Value) (T : TypeId) (B : Nat) (h : w.heap.size = B) : BC (w.alloc (.cells cs.toArray T)) B cs := by subst h; exact BC.new w cs T
theorem made_ints (w : World) (n : Nat) : BC (w.alloc (.cells (madeCells #[Value.int .i64 0] n) 3)) w.heap.size (List.replicate n (.int .i64 0)) :=
  ⟨fun j => by
    rw [World.cell?_alloc_at _ _ _ _ rfl]
    by_cases hj : j < n
    · simp [madeCells, hj, Nat.mod_one]
    · simp [madeCells, hj], fun j => World.frozen?_alloc_at _ _ _ _ rfl⟩

set_option maxRecDepth 100000 in
set_option maxHeartbeats 8000000 in
theorem used_any (m : Ms) (kv ev : Value) (r : Int) (w : World) (hW : WOk m) (hk : kindG m = true) (h1 : m.kind = 1 → m.known = []) (hr : MsR w m kv ev) :
    Calls Tryd.prog 30 #[msV m kv ev, .int .i64 r] w fun e w' => e = .returned (.bool (decide (proj m = m))) ∧ Frm No w w' := by
  have HW := hid hW
  have HKG := hid hk
  have HM := hid hr
  have H1 := hid h1
  have hkl := hW.klen
  have hel := hW.elen
  obtain ⟨kao, kcp, rfl⟩ := hr.kr.shape
  obtain ⟨eao, ecp, rfl⟩ := hr.er.shape
  obtain ⟨full0, hf0⟩ : ∃ b, (m.full && (m.kind == 10)) = b := ⟨_, rfl⟩
  obtain ⟨kv0, hkv0⟩ : ∃ v, (if m.kind = 1 then Value.slice none 0 0 else Value.slice kao m.known.length kcp) = v := ⟨_, rfl⟩
  have HKC := hid (fun (w1 : World) (hf : Frm No w w1) => clone_ints m.known _ w1 (hr.no hf).kr (by omega))
  have HEC := hid (fun (w1 : World) (hf : Frm No w w1) => clone_ents m.entries _ w1 (hr.no hf).er (by omega))
  clear hW hk hr h1 
  unfold msV
  obtain ⟨M, hMe⟩ : ∃ M, msC m (.slice kao m.known.length kcp) (.slice eao m.entries.length ecp) = M := ⟨_, rfl⟩
  have hML := hid hMe
  unfold msC at hMe
  rw [hML.out]
  subst hMe
  go_enter Tryd.func30, Tryd.ntmps30
  go_upto_region 1 with fail
  go_cut [5] from 11 to 22 (fun p wq => p = .pointer (some ⟨w.heap.size + 1, 0, none⟩) ∧ wq = (w.alloc (.cells #[.int .i64 m.kind, .int .i64 m.from_, .int .i64 m.born, .slice kao m.known.length kcp, .int .i64 m.view, .int .i64 m.last, .int .i64 m.op, .int .i64 m.commit, .int .i64 m.client, .int .i64 m.number, .int .i64 m.nonce, .string ⟨m.text.toArray⟩, .bool m.full, .int .i64 m.base, .string ⟨m.state.toArray⟩, .slice eao m.entries.length ecp] 31)).alloc (.cells #[.int .i64 m.kind, .int .i64 0, .int .i64 0, (.slice kao m.known.length kcp), .int .i64 0, .int .i64 0, .int .i64 0, .int .i64 0, .int .i64 0, .int .i64 0, .int .i64 0, .string ⟨#[]⟩, .bool full0, .int .i64 0, .string ⟨#[]⟩, .slice none 0 0] 31))
  case first =>
    as_aux_lemma =>
    obtain ⟨kind, from_, born, known, view, last, op, commit, client, number, nonce, text, full, base, state, entries⟩ := m
    dsimp only at *
    clear HKC HEC HW HKG HM H1
    cases full
    · subst hf0
      go_wp2_with fail
      go_meet
      exact ⟨rfl, rfl⟩
    · by_cases hk10 : kind = 10
      · subst hk10
        subst hf0
        go_wp2_with fail
        go_meet
        exact ⟨rfl, rfl⟩
      · have e10 : (kind == 10) = false := by simpa using hk10
        rw [e10] at hf0
        subst hf0
        go_wp2_with fail
        go_meet
        exact ⟨rfl, rfl⟩
  case rest =>
    as_aux_lemma =>
    obtain ⟨rfl, rfl⟩ := hcut
    go_upto_if 25 with fail
    go_cut [4] from 26 to 26 (fun _ wq => wq = (w.alloc (.cells #[.int .i64 m.kind, .int .i64 m.from_, .int .i64 m.born, .slice kao m.known.length kcp, .int .i64 m.view, .int .i64 m.last, .int .i64 m.op, .int .i64 m.commit, .int .i64 m.client, .int .i64 m.number, .int .i64 m.nonce, .string ⟨m.text.toArray⟩, .bool m.full, .int .i64 m.base, .string ⟨m.state.toArray⟩, .slice eao m.entries.length ecp] 31)).alloc (.cells #[.int .i64 m.kind, .int .i64 0, .int .i64 0, kv0, .int .i64 0, .int .i64 0, .int .i64 0, .int .i64 0, .int .i64 0, .int .i64 0, .int .i64 0, .string ⟨#[]⟩, .bool full0, .int .i64 0, .string ⟨#[]⟩, .slice none 0 0] 31))
    case first =>
      as_aux_lemma =>
      obtain ⟨kind, from_, born, known, view, last, op, commit, client, number, nonce, text, full, base, state, entries⟩ := m
      dsimp only at *
      clear HKC HEC HW HKG HM H1
      by_cases hk1 : kind = 1
      · subst hk1
        rw [if_pos rfl] at hkv0
        subst hkv0
        go_wp2_with fail
        go_meet
        rfl
      · rw [if_neg hk1] at hkv0
        subst hkv0
        go_wp2_with fail
        go_meet
        rfl
    case rest =>
      as_aux_lemma =>
      subst hcut
      obtain ⟨W, hWe⟩ : ∃ W, (((w.alloc (.cells #[.int .i64 m.kind, .int .i64 m.from_, .int .i64 m.born, .slice kao m.known.length kcp, .int .i64 m.view, .int .i64 m.last, .int .i64 m.op, .int .i64 m.commit, .int .i64 m.client, .int .i64 m.number, .int .i64 m.nonce, .string ⟨m.text.toArray⟩, .bool m.full, .int .i64 m.base, .string ⟨m.state.toArray⟩, .slice eao m.entries.length ecp] 31)).alloc (.cells #[.int .i64 m.kind, .int .i64 0, .int .i64 0, kv0, .int .i64 0, .int .i64 0, .int .i64 0, .int .i64 0, .int .i64 0, .int .i64 0, .int .i64 0, .string ⟨#[]⟩, .bool full0, .int .i64 0, .string ⟨#[]⟩, .slice none 0 0] 31)).alloc (.cells #[.slice none 0 0, .bool false, .pointer none, .bool false] 59)).alloc (.cells #[.int .i64 m.kind, .int .i64 m.from_, .int .i64 m.born, .slice kao m.known.length kcp, .int .i64 m.view, .int .i64 m.last, .int .i64 m.op, .int .i64 m.commit, .int .i64 m.client, .int .i64 m.number, .int .i64 m.nonce, .string ⟨m.text.toArray⟩, .bool m.full, .int .i64 m.base, .string ⟨m.state.toArray⟩, .slice eao m.entries.length ecp] 31) = W := ⟨_, rfl⟩
      go_upto_region 6 with fail
      have F0 : Frm No w W := by rw [← hWe]; exact ((((Frm.refl No w).alloc _).alloc _).alloc _).alloc _
      have hsz : W.heap.size = w.heap.size + 1 + 1 + 1 + 1 := by rw [← hWe]; simp
      have bM : BC W w.heap.size (msL m (.slice kao m.known.length kcp) (.slice eao m.entries.length ecp)) := by
        rw [← hWe]
        exact (BC.new w (msL m (.slice kao m.known.length kcp) (.slice eao m.entries.length ecp)) 31).frm (by simp) ((((Frm.refl No _).alloc _).alloc _).alloc _) (fun h => h)
      have bX : BC W (w.heap.size + 1) (msZ m.kind kv0 full0) := by
        rw [← hWe]
        refine BC.frm ?_ (by simp) (((Frm.refl No _).alloc _).alloc _) (fun h => h)
        exact BC.newAt _ (msZ m.kind kv0 full0) _ _ (by simp)
      have bF : BC W (w.heap.size + 1 + 1) [.slice none 0 0, .bool false, .pointer none, .bool false] := by
        rw [← hWe]
        refine BC.frm ?_ (by simp) ((Frm.refl No _).alloc _) (fun h => h)
        exact BC.newAt _ [.slice none 0 0, .bool false, .pointer none, .bool false] _ _ (by simp)
      have bC : BC W (w.heap.size + 1 + 1 + 1) (msL m (.slice kao m.known.length kcp) (.slice eao m.entries.length ecp)) := by
        rw [← hWe]
        exact BC.newAt _ (msL m (.slice kao m.known.length kcp) (.slice eao m.entries.length ecp)) _ _ (by simp)
      clear hWe
      have HB := hid bC
      have kM : ∀ j, W.cell? ⟨w.heap.size, j, none⟩ = ([.int .i64 m.kind, .int .i64 m.from_, .int .i64 m.born, .slice kao m.known.length kcp, .int .i64 m.view, .int .i64 m.last, .int .i64 m.op, .int .i64 m.commit, .int .i64 m.client, .int .i64 m.number, .int .i64 m.nonce, .string ⟨m.text.toArray⟩, .bool m.full, .int .i64 m.base, .string ⟨m.state.toArray⟩, .slice eao m.entries.length ecp] : List Value)[j]? := bM.cell
      have hlM : w.heap.size < W.heap.size := by omega
      have hlC : w.heap.size + 1 + 1 + 1 < W.heap.size := by omega
      have hF0 := hid F0
      clear F0
      go_cut [4] from 28 to 35 (fun _ wq => Cloned W m (w.heap.size + 1 + 1 + 1) wq)
      case first =>
        as_aux_lemma =>
        clear bM bX bF HW HKG HM H1 hkl hel hsz
        go_region_with (first | (go_at_call 17; refine (HKC.out _ hF0.out.drew).mono ?_; rintro e wa ⟨va, rfl, hka, hoa, hfa0⟩; obtain ⟨vao, vac, rfl⟩ := hka.shape; have hfa := ((Frm.refl No W).drew).thenNo hfa0; have kA := fun j => (hfa.cell (p := ⟨w.heap.size, j, none⟩) hlM (fun h => h)).trans (kM j)) | (go_at_call 18; refine (HEC.out _ (hF0.out.thenNo hfa)).mono ?_; rintro e wb ⟨vb, rfl, hkb, hob, hfb⟩; obtain ⟨vbo, vbc, rfl⟩ := hkb.shape; have bCb := (bC.frm hlC hfa (fun h => h)).frm (Nat.lt_of_lt_of_le hlC hfa.size) hfb (fun h => h); have kC := bCb.cell; have fC := bCb.fr))
        all_goals (dsimp only [Exit.then]; go_step; go_meet)
        all_goals
          exact clone_end HB.out (hfa.thenNo hfb) (hka.frm hfb (fun _ _ h => h)) hkb (fun k hk => hoa k hk) (fun k hk => Nat.le_trans hfa.size (hob k hk))
      case rest =>
        as_aux_lemma =>
        obtain ⟨⟨kv1, ev1, bK, rk, re, ok, oe⟩, hfc⟩ := hcut
        clear HKC HEC kM HB bC hlM hlC
        obtain ⟨fb, hfb⟩ : ∃ fb, w.heap.size + 1 + 1 = fb := ⟨_, rfl⟩
        obtain ⟨cb, hcb⟩ : ∃ cb, w.heap.size + 1 + 1 + 1 = cb := ⟨_, rfl⟩
        obtain ⟨xb, hxb⟩ : ∃ xb, w.heap.size + 1 = xb := ⟨_, rfl⟩
        obtain ⟨mb, hmb⟩ : ∃ mb, w.heap.size = mb := ⟨_, rfl⟩
        rw [hcb] at bK hfc
        rw [hxb] at bX
        rw [hmb] at bM
        have bFc : BC wc fb [.slice none 0 0, .bool false, .pointer none, .bool false] := by
          rw [hfb] at bF
          exact bF.frm (by omega) hfc (fun e => by have e : fb = cb := e; omega)
        have bXc : BC wc xb (msZ m.kind kv0 full0) := bX.frm (by omega) hfc (fun e => by have e : xb = cb := e; omega)
        have bMc := bM.frm (by omega) hfc (fun e => by have e : mb = cb := e; omega)
        have hszc := hfc.size
        clear bF bX bM
        have HA := hid (FW.all (S := One fb) (w0 := wc) (w := wc) (fb := fb) (b := cb) (l := []) (N := 0) ⟨⟨.slice none 0 0, ⟨bFc.cell 0, bFc.cell 1, bFc.fr, World.ownsRow_nil _ _ _ _, by simp [Value.ownBlock]⟩, fun k hk => by cases hk⟩, bFc.cell 2, Frm.refl _ _, .inl rfl, by simp⟩ m kv1 ev1 ⟨fun j => (bK.cell j).trans (by simp [msL]), fun e => by have e : cb = fb := e; omega, by omega, rk, fun k hk _ e => by have := ok k hk; have e : k = fb := e; omega, re, fun k hk _ e => by have := oe k hk; have e : k = fb := e; omega⟩ HW.out HKG.out (by omega))
        have kv0s : ∃ a c, kv0 = .slice a m.known.length c := by
          rw [← hkv0]
          by_cases hk1 : m.kind = 1
          · rw [if_pos hk1, H1.out hk1]
            exact ⟨none, 0, rfl⟩
          · rw [if_neg hk1]
            exact ⟨_, _, rfl⟩
        have HF10 : Hid (m.kind ≠ 10 → full0 = false) := hid (fun h => by rw [← hf0]; simp [h])
        obtain ⟨xao, xcp, rfl⟩ := kv0s
        clear hkv0 hf0 bK rk re
        rw [hcb, hfb, hxb, hmb]
        have hmk := fun w => run_make_row' (P := Tryd.prog) 23 3 (.int .i64 0) 8 Tryd.underlying23 info_int rfl .i64 .i64 m.known.length (by omega) (by omega) w
        go_wp2_with fail
        refine HA.out.mono ?_
        rintro e w1 ⟨rfl, f1⟩
        rw [List.nil_append] at f1
        obtain ⟨v, ho, hv⟩ := f1.ex
        have hz1 := f1.frm.size
        have hlen := f1.len
        have bX1 := bXc.frm (by omega) f1.frm (fun e => by have e : xb = fb := e; omega)
        have bM1 := bMc.frm (by omega) f1.frm (fun e => by have e : mb = fb := e; omega)
        have HO := hid (out_bytes fb 0 v _ false w1 ho)
        have hf1 := f1.frm
        clear HA ho hv f1 bXc bMc bFc
        go_wp2_with fail
        refine HO.out.mono ?_
        rintro e w2 ⟨rfl, rfl⟩
        have x3 : w1.cell? ⟨xb, 3, none⟩ = some (.slice xao m.known.length xcp) := bX1.cell 3
        have y3 : w1.frozen? ⟨xb, 3, none⟩ = false := bX1.fr 3
        have hxl1 : xb < w1.heap.size := by omega
        have x3' : ∀ o, (w1.alloc o).cell? ⟨xb, 3, none⟩ = some (.slice xao m.known.length xcp) := fun o => (((Frm.refl No w1).alloc o).cell (p := ⟨xb, 3, none⟩) hxl1 (fun h => h)).trans x3
        have y3' : ∀ o, (w1.alloc o).frozen? ⟨xb, 3, none⟩ = false := fun o => (((Frm.refl No w1).alloc o).frozen (p := ⟨xb, 3, none⟩) hxl1 (fun h => h)).trans y3
        have bX2 := bX1.set 3 (by simp [msZ]) (.slice (some ⟨w1.heap.size, 0, none⟩) m.known.length m.known.length)
        have hs2 : (w1.setCell ⟨xb, 3, none⟩ (.slice (some ⟨w1.heap.size, 0, none⟩) m.known.length m.known.length)).heap.size = w1.heap.size := by simp
        have bK2 := made_ints (w1.setCell ⟨xb, 3, none⟩ (.slice (some ⟨w1.heap.size, 0, none⟩) m.known.length m.known.length)) m.known.length
        rw [hs2] at bK2
        have hF2 : Frm (One xb) w1 (w1.setCell ⟨xb, 3, none⟩ (.slice (some ⟨w1.heap.size, 0, none⟩) m.known.length m.known.length)) := Frm.setCell (p := ⟨xb, 3, none⟩) (Frm.refl (One xb) w1) (fun _ => rfl) _
        have bM2 := bM1.frm (by omega) hF2 (fun e => by have e : mb = xb := e; omega)
        go_wp2_with fail
        obtain ⟨w2, hw2⟩ : ∃ w2, (w1.setCell ⟨xb, 3, none⟩ (.slice (some ⟨w1.heap.size, 0, none⟩) m.known.length m.known.length)).alloc (.cells (madeCells #[Value.int .i64 0] m.known.length) 3) = w2 := ⟨_, rfl⟩
        have hsz2 : w2.heap.size = w1.heap.size + 1 := by rw [← hw2, World.size_alloc, hs2]
        have hG2 : Frm No (w1.setCell ⟨xb, 3, none⟩ (.slice (some ⟨w1.heap.size, 0, none⟩) m.known.length m.known.length)) w2 := by rw [← hw2]; exact (Frm.refl No _).alloc _
        rw [hw2] at bK2 ⊢
        have bX3 := bX2.frm (by rw [hs2]; omega) hG2 (fun h => h)
        have bM3 := bM2.frm (by rw [hs2]; omega) hG2 (fun h => h)
        have hF3 := hF2.thenNo hG2
        clear x3 y3 x3' y3' bX1 bX2 bM1 bM2 hF2 hG2 hw2 hs2
        refine (in_open (restB m) w2).mono ?_
        rintro e w3 ⟨ib, rfl, hib, hin, hf3⟩
        have bX4 := bX3.frm (by omega) hf3 (fun h => h)
        have bM4 := bM3.frm (by omega) hf3 (fun h => h)
        have bK4 := bK2.frm (by omega) hf3 (fun h => h)
        have hz3 := hf3.size
        have hil := hin.lt
        clear bX3 bM3 bK2
        have hA4 : Frm No w3 (w3.alloc (.cells #[.slice none 0 0, .bool false, .pointer (some ⟨ib, 0, none⟩), .bool false] 59)) := (Frm.refl No w3).alloc _
        have bR := BC.new w3 [.slice none 0 0, .bool false, .pointer (some ⟨ib, 0, none⟩), .bool false] 59
        have bX5 := bX4.frm (by omega) hA4 (fun h => h)
        have bM5 := bM4.frm (by omega) hA4 (fun h => h)
        have bK5 := bK4.frm (by omega) hA4 (fun h => h)
        have hin5 := hin.frm hA4 (fun h => h)
        have hsz4 : (w3.alloc (.cells #[.slice none 0 0, .bool false, .pointer (some ⟨ib, 0, none⟩), .bool false] 59)).heap.size = w3.heap.size + 1 := by simp
        obtain ⟨w4, hw4⟩ : ∃ w4, w3.alloc (.cells #[.slice none 0 0, .bool false, .pointer (some ⟨ib, 0, none⟩), .bool false] 59) = w4 := ⟨_, rfl⟩
        have HR := hid (RM.all (w0 := w4) (wS := w4) (w := w4) (rb := w3.heap.size) (ib := ib) (xb := xb) (kb := w1.heap.size) (r := []) m HW.out HKG.out full0 HF10.out H1.out (by omega) (by omega) (by rw [← hw4, hsz4]; omega) (by rw [← hw4]; exact bK5)
          ⟨by rw [← hw4, List.append_nil]; exact hin5, by rw [List.append_nil]; omega, by rw [← hw4]; exact bR.cell 2, Frm.refl _ _, Frm.refl _ _, by rw [← hw4]; exact bX5, by rw [← hw4, hsz4]; omega, by rw [← hw4, hsz4]; omega, by rw [← hw4, hsz4]; omega, by omega, by omega, by omega, by omega, by omega⟩)
        go_wp2_with fail
        refine HR.out.mono ?_
        rintro e w5 ⟨rfl, ev5, rm5, re5, oe5, rk5⟩
        have hrf := rm5.frm
        have FT : Frm No w w5 := (((((hF0.out.wide hfc (fun i e => by have e : i = cb := e; omega)).wide hf1 (fun i e => by have e : i = fb := e; omega)).wide hF3 (fun i e => by have e : i = xb := e; omega)).thenNo hf3).thenNo (by rw [← hw4]; exact hA4)).wide hrf (fun i e => by rcases e with e | e | e <;> omega)
        have q3 : w5.cell? ⟨w3.heap.size, 3, none⟩ = some (.bool false) := by
          rw [hrf.cell (p := ⟨w3.heap.size, 3, none⟩) (by rw [← hw4, hsz4]; exact Nat.lt_succ_self _) (fun e => by rcases e with e | e | e <;> (have e : w3.heap.size = _ := e; omega)), ← hw4]
          exact bR.cell 3
        have q2 := rm5.c2
        have hi5 := rm5.in_
        have HE := hid (in_end ib [] 0 w5 hi5)
        have hend : Oct.rEnd [] 0 = 0 := rfl
        rw [hend] at HE
        have bM6 : BC w5 mb (msL m (.slice kao m.known.length kcp) (.slice eao m.entries.length ecp)) := by
          rw [hw4] at bM5
          exact bM5.frm (by rw [← hw4, hsz4]; omega) hrf (fun e => by rcases e with e | e | e <;> omega)
        have hl5 := proj_lens m
        have hx5 := rm5.x.cell
        have hm5 := bM6.cell
        obtain ⟨ao5, c5, rfl⟩ := re5.shape
        obtain ⟨pm, hpm⟩ : ∃ pm, proj m = pm := ⟨_, rfl⟩
        rw [hpm] at hx5 re5 rk5 hl5
        have HPM := hid hpm
        have HS := hid (same_any pm m _ _ _ _ w5 ⟨rk5, re5⟩ (HM.out.no FT) (by omega) (by omega) (by omega) (by omega))
        rw [sameB_eq] at HS
        clear rm5 hrf hi5 bM6 bM5 bX5 bK5 bR HR re5 rk5 oe5 hA4 hw4 bX4 bM4 bK4 hin5 hin hF3 hf3 HM hpm
        unfold msL msC at hx5 hm5
        unfold msV msC at HS
        have hFT := hid FT
        clear FT
        go_wp2_with (first | (go_at_call 36; refine HE.out.mono ?_; rintro e w6 ⟨rfl, rfl⟩) | (go_at_call 48; refine HS.out.mono ?_; rintro e w7 ⟨rfl, hf7⟩))
        go_ret
        exact ⟨(congrArg (fun x => Ending.returned (Value.bool (decide (x = m)))) HPM.out).symm, hFT.out.thenNo hf7⟩
end Go.Proofs.YtaejcejfpcjifaaDoor
