/- A message's frame. -/
import Derived.Test.YtaejcejfpcjifaaDoorMsgG7
import Derived.Test.YtaejcejfpcjifaaDoorSeal
namespace Go.Proofs.YtaejcejfpcjifaaDoor
open Go.RowKit
open Msg

def Msg.put (m : Ms) (r : Int) : List UInt8 := if good m r = true then Frl.wrap (body m) else []
theorem good_parts {m : Ms} {r : Int} (h : good m r = true) : WOk m ∧ kindG m = true ∧ (m.kind = 1 → m.known = []) ∧ proj m = m ∧ amt r = true ∧ headG m r = true ∧ fits m = true ∧ lens m = true ∧ m.entries.all entG = true ∧ (nums m).all Msg.num = true := by
  simp only [good, Msg.shape, Bool.and_eq_true, decide_eq_true_eq] at h
  obtain ⟨⟨⟨⟨⟨⟨⟨h1, h2⟩, h3⟩, h4⟩, h5⟩, h6⟩, h7⟩, h8⟩ := h
  exact ⟨shape_wok h1 h3 h4 h5 h6 h7, h2, head_one h3, h8, h1, h3, h7, h5, h6, h4⟩
theorem kind_num {m : Ms} (h : kindG m = true) : Msg.num m.kind = true := by
  simp only [kindG, Bool.and_eq_true, decide_eq_true_eq] at h
  simp only [Msg.num, Bool.and_eq_true, decide_eq_true_eq]
  omega
set_option maxRecDepth 100000 in
set_option maxHeartbeats 8000000 in
theorem mput_any (m : Ms) (kv ev : Value) (r : Int) (w : World) (hS : Sml m) (hr : MsR w m kv ev) (hT : Tab w) :
    Calls Tryd.prog 8 #[msV m kv ev, .int .i64 r] w fun e w' => e = .returned (.string ⟨(Msg.put m r).toArray⟩) ∧ Frm No w w' := by
  have HM := hid hr
  have HT := hid hT
  have l1 := hS.known
  have l2 := hS.ents
  obtain ⟨kao, kcp, rfl⟩ := hr.kr.shape
  obtain ⟨eao, ecp, rfl⟩ := hr.er.shape
  have HG := hid (fun w1 (hf : Frm No w w1) => good_any m (.slice kao m.known.length kcp) (.slice eao m.entries.length ecp) r w1 hS (hr.no hf))
  have HKC := hid (fun (w1 : World) (hf : Frm No w w1) => clone_ints m.known (.slice kao m.known.length kcp) w1 (hr.no hf).kr (by omega))
  have HEC := hid (fun (w1 : World) (hf : Frm No w w1) => clone_ents m.entries (.slice eao m.entries.length ecp) w1 (hr.no hf).er (by omega))
  clear hS hr hT
  have HP : Hid (Msg.put m r = if good m r = true then Frl.wrap (body m) else []) := hid rfl
  cases hg : good m r
  · rw [hg] at HG HP
    unfold msV msC at *
    go_enter Tryd.func8, Tryd.ntmps8
    go_wp2_with (go_at_call 9; refine (HG.out _ ((Frm.refl No w).alloc _)).mono ?_; rintro e1 w1 ⟨rfl, hf1⟩)
    go_ret
    exact ⟨by rw [HP.out]; rfl, ((Frm.refl No w).alloc _).thenNo hf1⟩
  · have hgp := hid (good_parts hg)
    rw [hg, if_pos rfl] at HP
    rw [hg] at HG
    clear hg
    have HV : Hid (msV m (.slice kao m.known.length kcp) (.slice eao m.entries.length ecp) = .agg #[.int .i64 m.kind, .int .i64 m.from_, .int .i64 m.born, .slice kao m.known.length kcp, .int .i64 m.view, .int .i64 m.last, .int .i64 m.op, .int .i64 m.commit, .int .i64 m.client, .int .i64 m.number, .int .i64 m.nonce, .string ⟨m.text.toArray⟩, .bool m.full, .int .i64 m.base, .string ⟨m.state.toArray⟩, .slice eao m.entries.length ecp]) := hid rfl
    rw [HV.out] at HG ⊢
    go_enter Tryd.func8, Tryd.ntmps8
    go_upto_region 4 with (go_at_call 9; refine (HG.out _ ((Frm.refl No w).alloc _)).mono ?_; rintro e1 w1 ⟨rfl, hf1⟩)
    obtain ⟨W, hWe⟩ : ∃ W, w1.alloc (.cells #[.slice none 0 0, .bool false, .pointer none, .bool false] 59) = W := ⟨_, rfl⟩
    simp only [hWe]
    have hf1' : Frm No w w1 := ((Frm.refl No w).alloc _).thenNo hf1
    have F0 : Frm No w W := by rw [← hWe]; exact hf1'.alloc _
    have hsz : W.heap.size = w1.heap.size + 1 := by rw [← hWe]; simp
    have hmb : w.heap.size < w1.heap.size := Nat.lt_of_lt_of_le (by simp) hf1.size
    have bM : BC W w.heap.size (msL m (.slice kao m.known.length kcp) (.slice eao m.entries.length ecp)) := by
      rw [← hWe]
      exact (BC.new w (msL m (.slice kao m.known.length kcp) (.slice eao m.entries.length ecp)) 31).frm (by simp) (hf1.alloc _) (fun h => h)
    have bF : BC W w1.heap.size [.slice none 0 0, .bool false, .pointer none, .bool false] := by
      rw [← hWe]
      exact BC.new w1 [.slice none 0 0, .bool false, .pointer none, .bool false] _
    clear hWe hf1 HG
    obtain ⟨mb, hmbe⟩ : ∃ mb, w.heap.size = mb := ⟨_, rfl⟩
    obtain ⟨fb, hfbe⟩ : ∃ fb, w1.heap.size = fb := ⟨_, rfl⟩
    rw [hmbe] at bM hmb
    rw [hfbe] at bF hmb hsz
    simp only [hmbe, hfbe]
    have HB := hid bM
    have kM : ∀ j, W.cell? ⟨mb, j, none⟩ = ([.int .i64 m.kind, .int .i64 m.from_, .int .i64 m.born, .slice kao m.known.length kcp, .int .i64 m.view, .int .i64 m.last, .int .i64 m.op, .int .i64 m.commit, .int .i64 m.client, .int .i64 m.number, .int .i64 m.nonce, .string ⟨m.text.toArray⟩, .bool m.full, .int .i64 m.base, .string ⟨m.state.toArray⟩, .slice eao m.entries.length ecp] : List Value)[j]? := bM.cell
    have fM := bM.fr
    have hlM : mb < W.heap.size := by omega
    have hF0 := hid F0
    clear F0
    go_cut [4] from 12 to 19 (fun _ wq => Cloned W m mb wq)
    case first =>
      as_aux_lemma =>
      clear bF hgp HP HT HM
      go_region_with (first | (go_at_call 17; refine (HKC.out _ hF0.out.drew).mono ?_; rintro e wa ⟨va, rfl, hka, hoa, hfa0⟩; obtain ⟨vao, vac, rfl⟩ := hka.shape; have hfa := ((Frm.refl No W).drew).thenNo hfa0; have kA := fun j => (hfa.cell (p := ⟨mb, j, none⟩) hlM (fun h => h)).trans (kM j)) | (go_at_call 18; refine (HEC.out _ (hF0.out.thenNo hfa)).mono ?_; rintro e wb ⟨vb, rfl, hkb, hob, hfb⟩; obtain ⟨vbo, vbc, rfl⟩ := hkb.shape; have bCb := (bM.frm hlM hfa (fun h => h)).frm (Nat.lt_of_lt_of_le hlM hfa.size) hfb (fun h => h); have kC := bCb.cell; have fC := bCb.fr))
      all_goals (dsimp only [Exit.then]; go_step; go_meet)
      all_goals
        exact clone_end HB.out (hfa.thenNo hfb) (hka.frm hfb (fun _ _ h => h)) hkb (fun k hk => hoa k hk) (fun k hk => Nat.le_trans hfa.size (hob k hk))
    case rest =>
      as_aux_lemma =>
      obtain ⟨⟨kv1, ev1, bK, rk, re, ok, oe⟩, hfc⟩ := hcut
      clear HKC HEC kM HB fM hlM
      obtain ⟨hW, hK, h1, hpr, -⟩ := hgp.out
      have bFc : BC wc fb [.slice none 0 0, .bool false, .pointer none, .bool false] := bF.frm (by omega) hfc (fun e => by have e : fb = mb := e; omega)
      have hszc := hfc.size
      clear bF bM
      have f0 : FW (One fb) wc wc fb [] 0 := ⟨⟨.slice none 0 0, ⟨bFc.cell 0, bFc.cell 1, bFc.fr, World.ownsRow_nil _ _ _ _, by simp [Value.ownBlock]⟩, fun k hk => by cases hk⟩, bFc.cell 2, Frm.refl _ _, .inl rfl, by simp⟩
      have hms : MsAt (One fb) wc mb m kv1 ev1 := ⟨fun j => (bK.cell j).trans (by simp [msL]), fun e => by have e : mb = fb := e; omega, by omega, rk, fun k hk _ e => by have := ok k hk; have e : k = fb := e; omega, re, fun k hk _ e => by have := oe k hk; have e : k = fb := e; omega⟩
      have HN := hid (f0.num m.kind (bK.cell 0) (kind_num hK) (by omega))
      have HA := hid (fun w2 (f : FW (One fb) wc w2 fb ([] ++ Oct.enc m.kind) (0 + 8)) => f.all m kv1 ev1 hms hW hK (by omega))
      have HBy : Hid (body m = Oct.enc m.kind ++ restB m) := hid rfl
      clear hms f0 bK rk re ok oe hgp
      go_wp2_with fail
      refine HN.out.mono ?_
      rintro e w2 ⟨rfl, f2⟩
      go_wp2_with fail
      refine (HA.out _ f2).mono ?_
      rintro e w3 ⟨rfl, f3⟩
      rw [List.nil_append, ← HBy.out] at f3
      obtain ⟨v, ho, hv⟩ := f3.ex
      have hlen := f3.len
      have FT : Frm No w w3 := (hF0.out.trans hfc (fun _ _ h => h) (fun i hi e => by have e : i = mb := e; omega)).trans f3.frm (fun _ _ h => h) (fun i hi e => by have e : i = fb := e; omega)
      have HO := hid (out_bytes fb 0 v _ false w3 ho)
      have HWr := hid (wrap_any (body m) w3 (HT.out.no FT) (by omega))
      clear ho hv f3 f2 HN HA
      go_wp2_with (first | (go_at_call 21; refine HO.out.mono ?_; rintro e w4 ⟨rfl, rfl⟩) | (go_at_call 22; refine HWr.out.mono ?_; rintro e w5 ⟨rfl, hf5⟩))
      go_ret
      exact ⟨by rw [HP.out]; rfl, FT.thenNo hf5⟩
end Go.Proofs.YtaejcejfpcjifaaDoor
