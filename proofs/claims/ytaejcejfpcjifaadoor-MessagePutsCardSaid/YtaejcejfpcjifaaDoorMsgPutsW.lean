/- The walk of MessagePuts: a message's frame, or that it is not good, and the message decoded from it. Printed by a program (msgputs.py). -/
import Derived.Test.YtaejcejfpcjifaaDoorMsgRef4
import Derived.Test.YtaejcejfpcjifaaDoorMsgTold
import Derived.Test.YtaejcejfpcjifaaDoorMsgSame
import Derived.Test.YtaejcejfpcjifaaDoorMsgMake
import Derived.Test.YtaejcejfpcjifaaDoorMsgG12
namespace Go.Proofs.YtaejcejfpcjifaaDoor
open Go.RowKit
open Msg

theorem RawK.no {w w' : World} {m : Ms} {kv ev : Value} (h : RawK w m kv ev) (hf : Frm No w w') : RawK w' m kv ev := ⟨h.rd.no hf, h.text, h.state, h.known, h.ents, h.texts⟩
theorem Lil.sml {m : Ms} (h : Lil m) : Sml m := ⟨by have := h.known; omega, by have := h.ents; omega, by have := h.text; omega, by have := h.state; omega, fun x hx => by have := h.texts x hx; omega⟩
theorem yields_load {P : Program} {ops : Array Oper} {S : World → Prop} {op : Oper} {a : Act} (hw : Region.wanted op (yielded ops a.tmps) = true) (ty : TypeId) (x : Operand) (ho : op.op = .load ty x)
    (b q : Nat) (hx : a.eval x = .pointer (some ⟨b, q, none⟩)) (cs : List Value) (d : TypeDesc) (hc : ∀ w, S w → w.rangeAt b q cs)
    (hu : P.underlying ty = some d) (hd : d.isRow = true) (hi : (P.info? ty).map (·.size) = some cs.length) : YieldsIf P ops S op (.agg cs.toArray) a :=
  .inl ⟨hw, fun w hS => by
    unfold execOp
    simp only [ho, hx, Instr.loadAt, Instr.sureAddr, Sem.run_bind, Sem.run_pure, Result.andThen_ok, run_loadVar_mid w b q ty cs d (hc w hS) hu hd hi]⟩
set_option maxRecDepth 100000 in
set_option maxHeartbeats 8000000 in
theorem msgputs (m : Ms) (kv ev : Value) (rp : Int) (w : World) (hT : Tab w) (h : RawK w m kv ev) :
    Calls Tryd.prog 3 #[rawV m kv ev, .int .i64 rp] w fun e w' => e = .returned (.bool true) ∧ Frm No w w' := by
  have HT := hid hT
  have HL := hid (fun w1 (hf : Frm No w w1) => large_any m kv ev w1 (h.no hf))
  have HMk := hid (fun hl w1 (hf : Frm No w w1) => made_any m kv ev w1 (h.no hf) hl)
  obtain ⟨kao, kcp, rfl⟩ := h.rd.kr.shape
  obtain ⟨eao, ecp, rfl⟩ := h.rd.er.shape
  clear h hT
  unfold rawV rawC at *
  go_enter Tryd.func3, Tryd.ntmps3
  go_upto_region 3 with (go_at_call 4; refine (msgspeaks _ (HT.out.no ((Frm.refl No w).alloc _))).mono ?_; rintro e0 w0 ⟨rfl, hf0⟩; have q0 := hf0.box)
  have hF0 := ((Frm.refl No w).alloc _).thenNo hf0
  go_cut [14] from 13 to 14 (fun t wq => ∃ b : Bool, t = .bool b ∧ (b = false → Lil m) ∧ Frm No w0 wq)
  case first =>
    go_wp2_with (go_at_call 5; refine (HL.out _ hF0).mono ?_; rintro e1 w1 ⟨b, rfl, hb, hf1⟩)
    go_meet
    exact ⟨b, rfl, hb, hf1⟩
  case rest =>
    obtain ⟨b, rfl, hb, hf1⟩ := hcut
    have q1 := (hf0.thenNo hf1).box
    have hF1 := hF0.thenNo hf1
    clear q0 HL
    cases b
    · have hl := hb rfl
      clear hb
      have hS := hl.sml
      have HP := hid (fun kv1 ev1 w1 (hr : MsR w1 m kv1 ev1) (hT : Tab w1) => mput_any m kv1 ev1 rp w1 hS hr hT)
      have q2 := q1
      have HGD := hid (fun kv1 ev1 w1 (hr : MsR w1 m kv1 ev1) => good_any m kv1 ev1 rp w1 hS hr)
      have HRG := hid (fun kv1 ev1 w1 (hr : MsR w1 m kv1 ev1) => rgood_any m kv1 ev1 rp w1 hS hr)
      rw [goodR_eq] at HRG
      have HRP := hid (fun kv1 ev1 w1 (hr : MsR w1 m kv1 ev1) => rmput_any m kv1 ev1 rp w1 hS hr)
      have HTD := hid (fun kv1 ev1 w1 (hr : MsR w1 m kv1 ev1) => told_any m kv1 ev1 w1 hr (by have := hl.ents; omega))
      have HSa := hid (fun ka ea kb eb w1 (ha : MsR w1 m ka ea) (hb : MsR w1 m kb eb) => refsame_any m m ka ea kb eb w1 ha hb (by have := hl.known; omega) (by have := hl.ents; omega))
      have HGE := hid (fun w1 (hg : good m rp = true) (hT : Tab w1) => mget_good m rp w1 hg hT)
      unfold msV msC at *
      go_upto_region 6 with (go_at_call 6; refine (HMk.out hl wc hF1).mono ?_; rintro e2 w2 ⟨kv1, ev1, ev2, rfl, hm1, hm2, hf2⟩; obtain ⟨ka1, kc1, rfl⟩ := hm1.kr.shape; obtain ⟨ea1, ec1, rfl⟩ := hm1.er.shape; obtain ⟨ea2, ec2, rfl⟩ := hm2.er.shape)
      have hF2 : Frm No w ((w2.alloc (.cells #[.int .i64 m.kind, .int .i64 m.from_, .int .i64 m.born, .slice ka1 m.known.length kc1, .int .i64 m.view, .int .i64 m.last, .int .i64 m.op, .int .i64 m.commit, .int .i64 m.client, .int .i64 m.number, .int .i64 m.nonce, .string ⟨m.text.toArray⟩, .bool m.full, .int .i64 m.base, .string ⟨m.state.toArray⟩, .slice ea1 m.entries.length ec1] 31)).alloc (.cells #[.int .i64 m.kind, .int .i64 m.from_, .int .i64 m.born, .slice kao m.known.length kcp, .int .i64 m.view, .int .i64 m.last, .int .i64 m.op, .int .i64 m.commit, .int .i64 m.client, .int .i64 m.number, .int .i64 m.nonce, .string ⟨m.text.toArray⟩, .bool m.full, .int .i64 m.base, .string ⟨m.state.toArray⟩, .slice ea2 m.entries.length ec2] 34)) := (((hF1.thenNo hf2)).alloc _).alloc _
      have hm3 : MsR ((w2.alloc (.cells #[.int .i64 m.kind, .int .i64 m.from_, .int .i64 m.born, .slice ka1 m.known.length kc1, .int .i64 m.view, .int .i64 m.last, .int .i64 m.op, .int .i64 m.commit, .int .i64 m.client, .int .i64 m.number, .int .i64 m.nonce, .string ⟨m.text.toArray⟩, .bool m.full, .int .i64 m.base, .string ⟨m.state.toArray⟩, .slice ea1 m.entries.length ec1] 31)).alloc (.cells #[.int .i64 m.kind, .int .i64 m.from_, .int .i64 m.born, .slice kao m.known.length kcp, .int .i64 m.view, .int .i64 m.last, .int .i64 m.op, .int .i64 m.commit, .int .i64 m.client, .int .i64 m.number, .int .i64 m.nonce, .string ⟨m.text.toArray⟩, .bool m.full, .int .i64 m.base, .string ⟨m.state.toArray⟩, .slice ea2 m.entries.length ec2] 34)) m (.slice ka1 m.known.length kc1) (.slice ea1 m.entries.length ec1) := hm1.no (((Frm.refl No w2).alloc _).alloc _)
      have hmB : MsR ((w2.alloc (.cells #[.int .i64 m.kind, .int .i64 m.from_, .int .i64 m.born, .slice ka1 m.known.length kc1, .int .i64 m.view, .int .i64 m.last, .int .i64 m.op, .int .i64 m.commit, .int .i64 m.client, .int .i64 m.number, .int .i64 m.nonce, .string ⟨m.text.toArray⟩, .bool m.full, .int .i64 m.base, .string ⟨m.state.toArray⟩, .slice ea1 m.entries.length ec1] 31)).alloc (.cells #[.int .i64 m.kind, .int .i64 m.from_, .int .i64 m.born, .slice kao m.known.length kcp, .int .i64 m.view, .int .i64 m.last, .int .i64 m.op, .int .i64 m.commit, .int .i64 m.client, .int .i64 m.number, .int .i64 m.nonce, .string ⟨m.text.toArray⟩, .bool m.full, .int .i64 m.base, .string ⟨m.state.toArray⟩, .slice ea2 m.entries.length ec2] 34)) m (.slice kao m.known.length kcp) (.slice ea2 m.entries.length ec2) := hm2.no (((Frm.refl No w2).alloc _).alloc _)
      have x7 := two_box1 (Frm.refl No ((w2.alloc (.cells #[.int .i64 m.kind, .int .i64 m.from_, .int .i64 m.born, .slice ka1 m.known.length kc1, .int .i64 m.view, .int .i64 m.last, .int .i64 m.op, .int .i64 m.commit, .int .i64 m.client, .int .i64 m.number, .int .i64 m.nonce, .string ⟨m.text.toArray⟩, .bool m.full, .int .i64 m.base, .string ⟨m.state.toArray⟩, .slice ea1 m.entries.length ec1] 31)).alloc (.cells #[.int .i64 m.kind, .int .i64 m.from_, .int .i64 m.born, .slice kao m.known.length kcp, .int .i64 m.view, .int .i64 m.last, .int .i64 m.op, .int .i64 m.commit, .int .i64 m.client, .int .i64 m.number, .int .i64 m.nonce, .string ⟨m.text.toArray⟩, .bool m.full, .int .i64 m.base, .string ⟨m.state.toArray⟩, .slice ea2 m.entries.length ec2] 34)))
      have xB := two_box2 (Frm.refl No ((w2.alloc (.cells #[.int .i64 m.kind, .int .i64 m.from_, .int .i64 m.born, .slice ka1 m.known.length kc1, .int .i64 m.view, .int .i64 m.last, .int .i64 m.op, .int .i64 m.commit, .int .i64 m.client, .int .i64 m.number, .int .i64 m.nonce, .string ⟨m.text.toArray⟩, .bool m.full, .int .i64 m.base, .string ⟨m.state.toArray⟩, .slice ea1 m.entries.length ec1] 31)).alloc (.cells #[.int .i64 m.kind, .int .i64 m.from_, .int .i64 m.born, .slice kao m.known.length kcp, .int .i64 m.view, .int .i64 m.last, .int .i64 m.op, .int .i64 m.commit, .int .i64 m.client, .int .i64 m.number, .int .i64 m.nonce, .string ⟨m.text.toArray⟩, .bool m.full, .int .i64 m.base, .string ⟨m.state.toArray⟩, .slice ea2 m.entries.length ec2] 34)))
      obtain ⟨W, hWe⟩ : ∃ W, W = ((w2.alloc (.cells #[.int .i64 m.kind, .int .i64 m.from_, .int .i64 m.born, .slice ka1 m.known.length kc1, .int .i64 m.view, .int .i64 m.last, .int .i64 m.op, .int .i64 m.commit, .int .i64 m.client, .int .i64 m.number, .int .i64 m.nonce, .string ⟨m.text.toArray⟩, .bool m.full, .int .i64 m.base, .string ⟨m.state.toArray⟩, .slice ea1 m.entries.length ec1] 31)).alloc (.cells #[.int .i64 m.kind, .int .i64 m.from_, .int .i64 m.born, .slice kao m.known.length kcp, .int .i64 m.view, .int .i64 m.last, .int .i64 m.op, .int .i64 m.commit, .int .i64 m.client, .int .i64 m.number, .int .i64 m.nonce, .string ⟨m.text.toArray⟩, .bool m.full, .int .i64 m.base, .string ⟨m.state.toArray⟩, .slice ea2 m.entries.length ec2] 34)) := ⟨_, rfl⟩
      rw [← hWe] at hF2 hm3 hmB x7 xB ⊢
      clear hWe hm1 hm2 hf2 hf1 hf0 hF0 hF1 HMk q1 q2
      have hA7 : w2.heap.size < W.heap.size := World.block_lt_of_cell? W ⟨w2.heap.size, 0, none⟩ (x7 0)
      have hB7 : w2.heap.size + 1 < W.heap.size := World.block_lt_of_cell? W ⟨w2.heap.size + 1, 0, none⟩ (xB 0)
      generalize w2.heap.size = p7 at *
      have HmA := hid hm3
      have HmB := hid hmB
      have HF2 := hid hF2
      have HXA := hid x7
      have HXB := hid xB
      obtain ⟨g, hg⟩ : ∃ g, good m rp = g := ⟨_, rfl⟩
      rw [hg] at HGD HRG
      have HPU : Hid (Msg.put m rp = if g = true then Frl.wrap (body m) else []) := hid (by rw [← hg]; rfl)
      have HGG := hid hg
      clear hg hm3 hmB hF2 x7 xB
      obtain ⟨s, hs⟩ : ∃ s, Msg.put m rp = s := ⟨_, rfl⟩
      rw [hs] at HP HRP HPU
      clear hs
      have kA := HXA.out
      have kB := HXB.out
      as_aux_lemma =>
      go_upto_region 7 with (go_at_call 7; refine (HRG.out _ _ W HmB.out).mono ?_; rintro e3 w3 ⟨rfl, hf3⟩)
      have HA3 := hid (fun j => (hf3.cell (p := ⟨p7, j, none⟩) hA7 (fun h => h)).trans (HXA.out j))
      have HB3 := hid (fun j => (hf3.cell (p := ⟨p7 + 1, j, none⟩) hB7 (fun h => h)).trans (HXB.out j))
      have HF3 := hid hf3
      have kA := HA3.out
      clear kB hf3
      as_aux_lemma =>
      go_upto_region 8 with (go_at_call 8; refine (HP.out _ _ w3 (HmA.out.no HF3.out) (HT.out.no (HF2.out.thenNo HF3.out))).mono ?_; rintro e4 w4 ⟨rfl, hf4⟩)
      have HF4 := hid (HF3.out.thenNo hf4)
      have HA4 := hid (fun j => (HF4.out.cell (p := ⟨p7, j, none⟩) hA7 (fun h => h)).trans (HXA.out j))
      have HB4 := hid (fun j => (HF4.out.cell (p := ⟨p7 + 1, j, none⟩) hB7 (fun h => h)).trans (HXB.out j))
      have kA := HA4.out
      clear HA3 HB3 hf4
      as_aux_lemma =>
      go_upto_if 37 with (first | (go_at_call 9; refine (HGD.out _ _ w4 (HmA.out.no HF4.out)).mono ?_; rintro e5 w5 ⟨rfl, hf5⟩; have kB := fun j => (hf5.cell (p := ⟨p7 + 1, j, none⟩) (Nat.lt_of_lt_of_le hB7 HF4.out.size) (fun h => h)).trans (HB4.out j)) | (go_at_call 10; refine (HRP.out _ _ w5 (HmB.out.no (HF4.out.thenNo hf5))).mono ?_; rintro e6 w6 ⟨rfl, hf6⟩))
      have HF6 := hid (HF4.out.thenNo (hf5.thenNo hf6))
      clear kA kB HA4 HB4 HF4 HF3 hf5 hf6 HGD HRG HRP HP
      cases g with
      | false =>
        as_aux_lemma =>
        have hs : s = [] := HPU.out
        subst hs
        clear HPU HSa HTD HGE
        go_wp2_with fail
        go_ret
        exact ⟨rfl, HF2.out.thenNo HF6.out⟩
      | true =>
        as_aux_lemma =>
        have hs : s = Frl.wrap (body m) := HPU.out
        have HGM := hid (fun w1 (hT : Tab w1) => HGE.out w1 HGG.out hT)
        rw [← hs] at HGM
        clear HPU hs HGE HGG
        have hT6 := HT.out.no (HF2.out.thenNo HF6.out)
        go_upto_region 13 with (go_at_call 11; refine (HGM.out w6 hT6).mono ?_; rintro e7 w7 ⟨kv7, ev7, rfl, hm7, hf7⟩; obtain ⟨kx, kz, rfl⟩ := hm7.kr.shape; obtain ⟨ex, ez, rfl⟩ := hm7.er.shape)
        have hF8 : Frm No w7 (w7.alloc (.cells #[.int .i64 m.kind, .int .i64 m.from_, .int .i64 m.born, .slice kx m.known.length kz, .int .i64 m.view, .int .i64 m.last, .int .i64 m.op, .int .i64 m.commit, .int .i64 m.client, .int .i64 m.number, .int .i64 m.nonce, .string ⟨m.text.toArray⟩, .bool m.full, .int .i64 m.base, .string ⟨m.state.toArray⟩, .slice ex m.entries.length ez] 31)) := (Frm.refl No w7).alloc _
        have hm8 := hm7.no hF8
        have x8 := (BC.new w7 [.int .i64 m.kind, .int .i64 m.from_, .int .i64 m.born, .slice kx m.known.length kz, .int .i64 m.view, .int .i64 m.last, .int .i64 m.op, .int .i64 m.commit, .int .i64 m.client, .int .i64 m.number, .int .i64 m.nonce, .string ⟨m.text.toArray⟩, .bool m.full, .int .i64 m.base, .string ⟨m.state.toArray⟩, .slice ex m.entries.length ez] 31).cell
        obtain ⟨W8, hWe⟩ : ∃ W8, W8 = w7.alloc (.cells #[.int .i64 m.kind, .int .i64 m.from_, .int .i64 m.born, .slice kx m.known.length kz, .int .i64 m.view, .int .i64 m.last, .int .i64 m.op, .int .i64 m.commit, .int .i64 m.client, .int .i64 m.number, .int .i64 m.nonce, .string ⟨m.text.toArray⟩, .bool m.full, .int .i64 m.base, .string ⟨m.state.toArray⟩, .slice ex m.entries.length ez] 31) := ⟨_, rfl⟩
        have hWe2 : W8 = w7.alloc (.cells ([.int .i64 m.kind, .int .i64 m.from_, .int .i64 m.born, .slice kx m.known.length kz, .int .i64 m.view, .int .i64 m.last, .int .i64 m.op, .int .i64 m.commit, .int .i64 m.client, .int .i64 m.number, .int .i64 m.nonce, .string ⟨m.text.toArray⟩, .bool m.full, .int .i64 m.base, .string ⟨m.state.toArray⟩, .slice ex m.entries.length ez] : List Value).toArray 31) := hWe
        have hl8 : w7.heap.size < W8.heap.size := by rw [hWe]; simp
        rw [← hWe] at hF8 hm8 ⊢
        rw [← hWe2] at x8
        clear hWe hWe2 hm7
        have HF8 := hid (HF6.out.thenNo (hf7.thenNo hF8))
        obtain ⟨p8, hp8⟩ : ∃ p8, w7.heap.size = p8 := ⟨_, rfl⟩
        rw [hp8] at x8 hl8
        simp only [hp8]
        clear hp8 hf7 hF8 HGM hT6
        have HM8 := hid hm8
        have SK : Hid (∀ w', Frm No W8 w' → w'.rangeAt p8 0 [.int .i64 m.kind, .int .i64 m.from_, .int .i64 m.born, .slice kx m.known.length kz, .int .i64 m.view, .int .i64 m.last, .int .i64 m.op, .int .i64 m.commit, .int .i64 m.client, .int .i64 m.number, .int .i64 m.nonce, .string ⟨m.text.toArray⟩, .bool m.full, .int .i64 m.base, .string ⟨m.state.toArray⟩, .slice ex m.entries.length ez] ∧ w'.rangeAt (p7 + 1) 0 [.int .i64 m.kind, .int .i64 m.from_, .int .i64 m.born, .slice kao m.known.length kcp, .int .i64 m.view, .int .i64 m.last, .int .i64 m.op, .int .i64 m.commit, .int .i64 m.client, .int .i64 m.number, .int .i64 m.nonce, .string ⟨m.text.toArray⟩, .bool m.full, .int .i64 m.base, .string ⟨m.state.toArray⟩, .slice ea2 m.entries.length ec2]) := hid fun w' hf => ⟨fun j v hv => by rw [Nat.zero_add]; exact ((hf.cell (p := ⟨p8, j, none⟩) hl8 (fun h => h)).trans (x8 j)).trans hv, fun j v hv => by rw [Nat.zero_add]; exact (((HF8.out.thenNo hf).cell (p := ⟨p7 + 1, j, none⟩) hB7 (fun h => h)).trans (HXB.out j)).trans (by simpa using hv)⟩
        clear hm8 x8
        refine wp_region_late (fun w' => w'.rangeAt p8 0 [.int .i64 m.kind, .int .i64 m.from_, .int .i64 m.born, .slice kx m.known.length kz, .int .i64 m.view, .int .i64 m.last, .int .i64 m.op, .int .i64 m.commit, .int .i64 m.client, .int .i64 m.number, .int .i64 m.nonce, .string ⟨m.text.toArray⟩, .bool m.full, .int .i64 m.base, .string ⟨m.state.toArray⟩, .slice ex m.entries.length ez] ∧ w'.rangeAt (p7 + 1) 0 [.int .i64 m.kind, .int .i64 m.from_, .int .i64 m.born, .slice kao m.known.length kcp, .int .i64 m.view, .int .i64 m.last, .int .i64 m.op, .int .i64 m.commit, .int .i64 m.client, .int .i64 m.number, .int .i64 m.nonce, .string ⟨m.text.toArray⟩, .bool m.full, .int .i64 m.base, .string ⟨m.state.toArray⟩, .slice ea2 m.entries.length ec2]) [] (by kernel_rfl) (SK.out _ (Frm.refl _ _).drew) (fun hHeld => ?_)
        refine wpLate_take0 (i := 0) (oi := _) (v := _) rfl (by kernel_rfl) (by kernel_rfl) (by kernel_rfl) (by kernel_rfl) (fun _ _ _ h => h) (Or.inl ⟨by rfl, by intro w _; go_simp; all_goals with_reducible rfl⟩) (fun _ => by assumption) ?_
        (try simp only [Act.put, List.getElem_toArray, List.getElem_cons_zero, List.setIfInBounds_toArray, List.set_cons_zero, List.set_cons_succ])
        refine wpLate_take0 (i := 1) (oi := _) (v := _) rfl (by kernel_rfl) (by kernel_rfl) (by kernel_rfl) (by kernel_rfl) (fun _ _ _ h => h) (Or.inl ⟨by rfl, by intro w _; go_simp; all_goals with_reducible rfl⟩) (fun _ => by assumption) ?_
        (try simp only [Act.put, List.getElem_toArray, List.getElem_cons_succ, List.getElem_cons_zero, List.setIfInBounds_toArray, List.set_cons_zero, List.set_cons_succ])
        refine wpLate_take0 (i := 2) (oi := _) (v := _) rfl (by kernel_rfl) (by kernel_rfl) (by kernel_rfl) (by kernel_rfl) (fun _ _ _ h => h) (Or.inl ⟨by rfl, by intro w _; go_simp; all_goals with_reducible rfl⟩) (fun _ => by assumption) ?_
        (try simp only [Act.put, List.getElem_toArray, List.getElem_cons_succ, List.getElem_cons_zero, List.setIfInBounds_toArray, List.set_cons_zero, List.set_cons_succ])
        refine wpLate_take [4, 6, 7, 8] (i := 3) (oi := _) (v := .agg #[.int .i64 m.kind, .int .i64 m.from_, .int .i64 m.born, .slice kx m.known.length kz, .int .i64 m.view, .int .i64 m.last, .int .i64 m.op, .int .i64 m.commit, .int .i64 m.client, .int .i64 m.number, .int .i64 m.nonce, .string ⟨m.text.toArray⟩, .bool m.full, .int .i64 m.base, .string ⟨m.state.toArray⟩, .slice ex m.entries.length ez]) rfl (by kernel_rfl) (by kernel_rfl) (by kernel_rfl) (by kernel_rfl) (by kernel_rfl) (fun _ _ _ h => h) (yields_load (by rfl) 31 (.tmp 9) rfl p8 0 (by rfl) [.int .i64 m.kind, .int .i64 m.from_, .int .i64 m.born, .slice kx m.known.length kz, .int .i64 m.view, .int .i64 m.last, .int .i64 m.op, .int .i64 m.commit, .int .i64 m.client, .int .i64 m.number, .int .i64 m.nonce, .string ⟨m.text.toArray⟩, .bool m.full, .int .i64 m.base, .string ⟨m.state.toArray⟩, .slice ex m.entries.length ez] _ (fun _ h => h.1) Tryd.underlying31 (by rfl) (size_a' rfl)) (by assumption) ?_
        (try simp only [Act.put, List.getElem_toArray, List.getElem_cons_succ, List.getElem_cons_zero, List.setIfInBounds_toArray, List.set_cons_zero, List.set_cons_succ])
        refine wpLate_take [6, 7, 8] (i := 5) (oi := _) (v := .agg #[.int .i64 m.kind, .int .i64 m.from_, .int .i64 m.born, .slice kao m.known.length kcp, .int .i64 m.view, .int .i64 m.last, .int .i64 m.op, .int .i64 m.commit, .int .i64 m.client, .int .i64 m.number, .int .i64 m.nonce, .string ⟨m.text.toArray⟩, .bool m.full, .int .i64 m.base, .string ⟨m.state.toArray⟩, .slice ea2 m.entries.length ec2]) rfl (by kernel_rfl) (by kernel_rfl) (by kernel_rfl) (by kernel_rfl) (by kernel_rfl) (fun _ _ _ h => h) (yields_load (by rfl) 34 (.tmp 6) rfl (p7 + 1) 0 (by rfl) [.int .i64 m.kind, .int .i64 m.from_, .int .i64 m.born, .slice kao m.known.length kcp, .int .i64 m.view, .int .i64 m.last, .int .i64 m.op, .int .i64 m.commit, .int .i64 m.client, .int .i64 m.number, .int .i64 m.nonce, .string ⟨m.text.toArray⟩, .bool m.full, .int .i64 m.base, .string ⟨m.state.toArray⟩, .slice ea2 m.entries.length ec2] _ (fun _ h => h.2) Tryd.underlying34 (by rfl) (size_b' rfl)) (by assumption) ?_
        (try simp only [Act.put, List.getElem_toArray, List.getElem_cons_succ, List.getElem_cons_zero, List.setIfInBounds_toArray, List.set_cons_zero, List.set_cons_succ])
        refine wpLate_ready (rs := [4]) (by kernel_rfl) (by simp) ?_
        refine (AllReadyL.cons (i := 4) rfl (fun K hK => ?_) AllReadyL.nil)
        simp only [List.getElem_toArray, List.getElem_cons_succ, List.getElem_cons_zero]
        go_simp
        refine (HTD.out _ _ _ (HM8.out.no (Frm.refl No W8).drew)).mono ?_; rintro e9 w9 ⟨ev9, rfl, hm9, hf9⟩; obtain ⟨ey, ew, rfl⟩ := hm9.er.shape
        refine hK.out _ _ (SK.out _ ((Frm.refl No W8).drew.thenNo hf9)) (fun hHeld => ?_)
        clear hK K
        (try simp only [Act.put, List.getElem_toArray, List.getElem_cons_succ, List.getElem_cons_zero, List.setIfInBounds_toArray, List.set_cons_zero, List.set_cons_succ])
        refine wpLate_ready (rs := [6]) (by kernel_rfl) (by simp) ?_
        refine (AllReadyL.cons (i := 6) rfl (fun K hK => ?_) AllReadyL.nil)
        simp only [List.getElem_toArray, List.getElem_cons_succ, List.getElem_cons_zero]
        go_simp
        refine (HSa.out _ _ _ _ _ hm9 (HmB.out.no (HF8.out.thenNo ((Frm.refl No W8).drew.thenNo hf9)))).mono ?_; rintro e10 w10 ⟨rfl, hf10⟩
        refine hK.out _ _ (SK.out _ (((Frm.refl No W8).drew.thenNo hf9).thenNo hf10)) (fun hHeld => ?_)
        clear hK K
        (try simp only [Act.put, List.getElem_toArray, List.getElem_cons_succ, List.getElem_cons_zero, List.setIfInBounds_toArray, List.set_cons_zero, List.set_cons_succ])
        refine wpLate_take0 (i := 7) (oi := _) (v := _) rfl (by kernel_rfl) (by kernel_rfl) (by kernel_rfl) (by kernel_rfl) (fun _ _ _ h => h) (Or.inl ⟨by rfl, by intro w _; go_simp; all_goals with_reducible rfl⟩) (fun _ => by assumption) ?_
        (try simp only [Act.put, List.getElem_toArray, List.getElem_cons_succ, List.getElem_cons_zero, List.setIfInBounds_toArray, List.set_cons_zero, List.set_cons_succ])
        refine wpLate_take0 (i := 8) (oi := _) (v := _) rfl (by kernel_rfl) (by kernel_rfl) (by kernel_rfl) (by kernel_rfl) (fun _ _ _ h => h) (Or.inl ⟨by rfl, by intro w _; go_simp; all_goals with_reducible rfl⟩) (fun _ => by assumption) ?_
        (try simp only [Act.put, List.getElem_toArray, List.getElem_cons_succ, List.getElem_cons_zero, List.setIfInBounds_toArray, List.set_cons_zero, List.set_cons_succ])
        refine wpLate_done (by kernel_rfl) ?_ _
        go_wp2_with fail
        go_ret
        exact ⟨by simp, HF2.out.thenNo ((HF8.out.thenNo ((Frm.refl No W8).drew.thenNo hf9)).thenNo hf10)⟩
    · go_wp2_with fail
      go_ret
      exact ⟨rfl, hF1⟩
theorem msgputs_x (x : Ms × Value × Value) (rp : Int) (_ : -9223372036854775808 ≤ rp ∧ rp ≤ 9223372036854775807) (w : World) (hT : Tab w) (h : RawK w x.1 x.2.1 x.2.2) :
    Calls Tryd.prog 3 #[rawV x.1 x.2.1 x.2.2, .int .i64 rp] w fun e w' => e = .returned (.bool true) ∧ Frm No w w' := msgputs x.1 x.2.1 x.2.2 rp w hT h
end Go.Proofs.YtaejcejfpcjifaaDoor
