/- The walk of MessageSpoilt: a frame of a message with one to four consecutive changed bytes is rejected. -/
import Derived.Test.YtlnmefpndgmenaaDoorMsgG12
import Derived.Test.YtlnmefpndgmenaaDoorMsgMake
import Derived.Test.YtlnmefpndgmenaaDoorFrmSp
import Derived.Deep.Cut
import Derived.Deep.CutRange
import Derived.Deep.CutBlock
namespace Go.Proofs.YtlnmefpndgmenaaDoor
open Go.RowKit
open Msg
open Spo

theorem RawK.no {w w' : World} {m : Ms} {kv ev : Value} (h : RawK w m kv ev) (hf : Frm No w w') : RawK w' m kv ev := ⟨h.rd.no hf, h.text, h.state, h.known, h.ents, h.texts⟩
theorem Lil.sml {m : Ms} (h : Lil m) : Sml m := ⟨by have := h.known; omega, by have := h.ents; omega, by have := h.text; omega, by have := h.state; omega, fun x hx => by have := h.texts x hx; omega⟩

theorem at_in2 (x L : Int) (h : 1 ≤ L) (h2 : L ≤ 4000000) : 0 ≤ (x.tmod L + L).tmod L ∧ (x.tmod L + L).tmod L < L := by
  have h1 := Int.lt_tmod_of_pos x (b := L) (by omega)
  have h3 := Int.tmod_lt_of_pos x (b := L) (by omega)
  rw [Int.tmod_eq_emod_of_nonneg (by omega)]
  have h4 := Int.emod_nonneg (x.tmod L + L) (b := L) (by omega)
  have h5 := Int.emod_lt_of_pos (x.tmod L + L) (b := L) (by omega)
  omega
/-- What the law does with a frame s: it turns up to four bytes, and asks what Get says. -/
def SplEnd (w : World) (e : Ending) (w' : World) : Prop := e = .returned (.bool true) ∧ Frm No w w'
set_option maxRecDepth 100000 in
set_option maxHeartbeats 4000000 in
theorem msgspoilt (m : Ms) (kv ev : Value) (at_ : Int) (_ : -9223372036854775808 ≤ at_ ∧ at_ ≤ 9223372036854775807) (by_ : Int) (hby : 0 ≤ by_ ∧ by_ ≤ 4294967295) (w : World) (hT : Tab w) (h : RawK w m kv ev) :
    Calls Tryd.prog 4 #[rawV m kv ev, .int .i64 at_, .int .u32 by_] w fun e w' => e = .returned (.bool true) ∧ Frm No w w' := by
  have HT := hid hT
  have HL := hid (fun w1 (hf : Frm No w w1) => large_any m kv ev w1 (h.no hf))
  have HMk := hid (fun hl w1 (hf : Frm No w w1) => made_any m kv ev w1 (h.no hf) hl)
  obtain ⟨kao, kcp, rfl⟩ := h.rd.kr.shape
  obtain ⟨eao, ecp, rfl⟩ := h.rd.er.shape
  clear h hT
  unfold rawV rawC at *
  go_enter Tryd.func4, Tryd.ntmps4
  go_upto_region 3 with (go_at_call 7; refine (msgspeaks _ (HT.out.no ((Frm.refl No w).alloc _))).mono ?_; rintro e0 w0 ⟨rfl, hf0⟩; have q0 := hf0.box)
  have hF0 := ((Frm.refl No w).alloc _).thenNo hf0
  go_cut [18] from 17 to 18 (fun t wq => ∃ b : Bool, t = .bool b ∧ (b = false → Lil m) ∧ Frm No w0 wq)
  case first =>
    go_wp2_with (go_at_call 8; refine (HL.out _ hF0).mono ?_; rintro e1 w1 ⟨b, rfl, hb, hf1⟩)
    go_meet
    exact ⟨b, rfl, hb, hf1⟩
  case rest =>
    obtain ⟨b, rfl, hb, hf1⟩ := hcut
    have q1 := (hf0.thenNo hf1).box
    have hF1 := hF0.thenNo hf1
    clear q0 HL
    cases b
    · have hl := hb rfl
      clear hb
      have hS := hl.sml
      have HP := hid (fun kv1 ev1 w1 (hr : MsR w1 m kv1 ev1) (hT : Tab w1) => mput_any m kv1 ev1 3 w1 hS hr hT)
      have q2 := q1
      unfold msV msC at *
      go_upto_region 6 with (go_at_call 9; refine (HMk.out hl wc hF1).mono ?_; rintro e2 w2 ⟨kv1, ev1, ev2, rfl, hm1, hm2, hf2⟩; obtain ⟨ka1, kc1, rfl⟩ := hm1.kr.shape; obtain ⟨ea1, ec1, rfl⟩ := hm1.er.shape; obtain ⟨ea2, ec2, rfl⟩ := hm2.er.shape)
      have hF2 : Frm No w ((w2.alloc (.cells #[.int .i64 m.kind, .int .i64 m.from_, .int .i64 m.born, .slice ka1 m.known.length kc1, .int .i64 m.view, .int .i64 m.last, .int .i64 m.op, .int .i64 m.commit, .int .i64 m.client, .int .i64 m.number, .int .i64 m.nonce, .string ⟨m.text.toArray⟩, .bool m.full, .int .i64 m.base, .string ⟨m.state.toArray⟩, .slice ea1 m.entries.length ec1] 31)).alloc (.cells #[.int .i64 m.kind, .int .i64 m.from_, .int .i64 m.born, .slice kao m.known.length kcp, .int .i64 m.view, .int .i64 m.last, .int .i64 m.op, .int .i64 m.commit, .int .i64 m.client, .int .i64 m.number, .int .i64 m.nonce, .string ⟨m.text.toArray⟩, .bool m.full, .int .i64 m.base, .string ⟨m.state.toArray⟩, .slice ea2 m.entries.length ec2] 34)) := (((hF1.thenNo hf2)).alloc _).alloc _
      have hm3 : MsR ((w2.alloc (.cells #[.int .i64 m.kind, .int .i64 m.from_, .int .i64 m.born, .slice ka1 m.known.length kc1, .int .i64 m.view, .int .i64 m.last, .int .i64 m.op, .int .i64 m.commit, .int .i64 m.client, .int .i64 m.number, .int .i64 m.nonce, .string ⟨m.text.toArray⟩, .bool m.full, .int .i64 m.base, .string ⟨m.state.toArray⟩, .slice ea1 m.entries.length ec1] 31)).alloc (.cells #[.int .i64 m.kind, .int .i64 m.from_, .int .i64 m.born, .slice kao m.known.length kcp, .int .i64 m.view, .int .i64 m.last, .int .i64 m.op, .int .i64 m.commit, .int .i64 m.client, .int .i64 m.number, .int .i64 m.nonce, .string ⟨m.text.toArray⟩, .bool m.full, .int .i64 m.base, .string ⟨m.state.toArray⟩, .slice ea2 m.entries.length ec2] 34)) m (.slice ka1 m.known.length kc1) (.slice ea1 m.entries.length ec1) := hm1.no (((Frm.refl No w2).alloc _).alloc _)
      have x7 := two_box1 (Frm.refl No ((w2.alloc (.cells #[.int .i64 m.kind, .int .i64 m.from_, .int .i64 m.born, .slice ka1 m.known.length kc1, .int .i64 m.view, .int .i64 m.last, .int .i64 m.op, .int .i64 m.commit, .int .i64 m.client, .int .i64 m.number, .int .i64 m.nonce, .string ⟨m.text.toArray⟩, .bool m.full, .int .i64 m.base, .string ⟨m.state.toArray⟩, .slice ea1 m.entries.length ec1] 31)).alloc (.cells #[.int .i64 m.kind, .int .i64 m.from_, .int .i64 m.born, .slice kao m.known.length kcp, .int .i64 m.view, .int .i64 m.last, .int .i64 m.op, .int .i64 m.commit, .int .i64 m.client, .int .i64 m.number, .int .i64 m.nonce, .string ⟨m.text.toArray⟩, .bool m.full, .int .i64 m.base, .string ⟨m.state.toArray⟩, .slice ea2 m.entries.length ec2] 34)))
      obtain ⟨W, hWe⟩ : ∃ W, W = ((w2.alloc (.cells #[.int .i64 m.kind, .int .i64 m.from_, .int .i64 m.born, .slice ka1 m.known.length kc1, .int .i64 m.view, .int .i64 m.last, .int .i64 m.op, .int .i64 m.commit, .int .i64 m.client, .int .i64 m.number, .int .i64 m.nonce, .string ⟨m.text.toArray⟩, .bool m.full, .int .i64 m.base, .string ⟨m.state.toArray⟩, .slice ea1 m.entries.length ec1] 31)).alloc (.cells #[.int .i64 m.kind, .int .i64 m.from_, .int .i64 m.born, .slice kao m.known.length kcp, .int .i64 m.view, .int .i64 m.last, .int .i64 m.op, .int .i64 m.commit, .int .i64 m.client, .int .i64 m.number, .int .i64 m.nonce, .string ⟨m.text.toArray⟩, .bool m.full, .int .i64 m.base, .string ⟨m.state.toArray⟩, .slice ea2 m.entries.length ec2] 34)) := ⟨_, rfl⟩
      rw [← hWe] at hF2 hm3 x7 ⊢
      clear hWe hm1 hm2 hf2 hf1 hf0 hF0 hF1 HMk q1 q2
      generalize w2.heap.size = p7 at *
      go_cut [0, 7, 8, 9, 15, 16, 17, 18, 19, 20, 21, 22, 23] from 24 to 25 (fun _ _ _ s _ _ _ _ _ _ _ _ _ wq => s = .string ⟨(Msg.put m 3).toArray⟩ ∧ Frm No w wq)
      case first =>
        as_aux_lemma =>
        go_wp2_with (go_at_call 11; refine (HP.out _ _ W hm3 (HT.out.no hF2)).mono ?_; rintro e3 w3 ⟨rfl, hf3⟩)
        go_meet
        exact ⟨rfl, hF2.thenNo hf3⟩
      case rest =>
        as_aux_lemma =>
        obtain ⟨rfl, hF3⟩ := hcut
        clear hF2 hm3 x7 HP
        obtain ⟨n, rfl⟩ := Int.eq_ofNat_of_zero_le hby.1
        cases hg : Msg.good m 3
        · have hp : Msg.put m 3 = [] := by rw [Msg.put, hg]; rfl
          rw [hp]
          go_wp2_with fail
          go_ret
          exact ⟨rfl, hF3⟩
        · have hp : Msg.put m 3 = Frl.wrap (body m) := by rw [Msg.put, hg, if_pos rfl]
          rw [hp]
          have hbl := body_len hg
          have hfl := Frl.wrap_length hbl
          have hel := Oct.enc_le (body m).length
          have HG := hid (fun w1 (hT : Tab w1) => mget_good m 3 w1 hg hT)
          have HTOLD := hid (fun k (h1 : k ≤ 4) p h2 h3 => turned_told (b := body m) (n := n) (p := p) (i := k) hbl h1 h2 h3)
          have hfu : (Frl.wrap (body m)).length ≤ 2000000 := by omega
          have hf0 : 0 < (Frl.wrap (body m)).length := by omega
          unfold msV msC at HG
          clear hp hg hfl hel hbl
          generalize Frl.wrap (body m) = f at *
          have hne : (f == []) = false := by cases f <;> simp at hf0 ⊢
          have hne2 : f.isEmpty = false := by cases f <;> simp at hf0 ⊢
          have hai := at_in2 at_ (f.length : Int) (by omega) (by omega)
          obtain ⟨p, hp⟩ := Int.eq_ofNat_of_zero_le hai.1
          have hpl : p < f.length := by rw [hp] at hai; omega
          have hw1 : wrap64 (at_.tmod (f.length : Int) + (f.length : Int)) = at_.tmod (f.length : Int) + (f.length : Int) := by
            have h1 := Int.lt_tmod_of_pos at_ (b := (f.length : Int)) (by omega)
            have h3 := Int.tmod_lt_of_pos at_ (b := (f.length : Int)) (by omega)
            exact IntWalk.wrap64_in _ (by omega)
          rw [← hw1] at hp
          clear hai hw1
          have hcb := fun W : World => Lib.run_convert_string_bytes (P := Tryd.prog) W 9 48 5 ⟨f.toArray⟩ Tryd.underlying9 Tryd.underlying48 Tryd.underlying5
          go_wp2_with fail
          have hBA : BytesAt (Lib.bytesWorld wc 5 ⟨f.toArray⟩) wc.heap.size (turned f n p 0) := by rw [turned_same rfl]; exact bytes_start wc 5 f
          have hfB : Frm No w (Lib.bytesWorld wc 5 ⟨f.toArray⟩) := hF3.thenNo (Frm.ofBelow_size (Lib.bytesWorld_below wc 5 ⟨f.toArray⟩))
          have hBs : w.heap.size ≤ wc.heap.size := hF3.size
          obtain ⟨B, hB⟩ : ∃ B, wc.heap.size = B := ⟨_, rfl⟩
          rw [hB] at hBA hBs
          simp only [hB]
          generalize grownCap wc f.length 0 5 = cap
          generalize Lib.bytesWorld wc 5 ⟨f.toArray⟩ = wb at *
          clear hcb hB hF3
          go_loopw [11, 12] (fun c i wr => ∃ k : Nat, k ≤ 4 ∧ p + k ≤ f.length ∧ i = .int .i64 (k : Int) ∧ c = .bool (chg n k) ∧ BytesAt wr B (turned f n p k) ∧ Frm No w wr) (fun _ i _ => 4 - (intOf i).toNat)
          case atStart => exact ⟨0, by omega, by omega, rfl, rfl, hBA, hfB⟩
          case round =>
            obtain ⟨k, hk, hpk, rfl, rfl, hBk, hf⟩ := hrel
            clear hBA hfB
            by_cases hlast : k < 4 ∧ p + k < f.length
            · as_aux_lemma =>
              obtain ⟨hk4, hpk'⟩ := hlast
              have hkz : (k : Int) < 4 := by omega
              have hkz2 : (k : Int) < (f.length : Int) - (p : Int) := by omega
              have hS := sbyte_int n k
              have hX := xor_u8 f[p + k] (sbyte n k)
              have HST := hid (bytes_step hBk hpk')
              have hcell := hBk (p + k) (by rw [turned_length]; exact hpk')
              have hcur : (turned f n p k)[p + k]'(by rw [turned_length]; exact hpk') = f[p + k] := by
                rw [turned_at]
                have : D n p k (p + k) = 0 := if_neg (by omega)
                rw [this]; simp
              rw [hcur] at hcell
              obtain ⟨hc0, hc1⟩ := hcell
              have HC := hid (chg_succ n k)
              have SK : Hid (∀ w', Frm No wr w' → w'.cell? ⟨B, p + k, none⟩ = some (.int .u8 (f[p + k].toNat : Int))) := hid fun w' hf' => (hf'.cell (p := ⟨B, p + k, none⟩) (World.block_lt_of_cell? wr _ hc0) (fun h => h)).trans hc0
              have hwr : IntKind.i64.wrap ((p : Int) + (k : Int)) = (p : Int) + (k : Int) := IntWalk.i64_in _ (by omega)
              have hwm : IntKind.i64.wrap (8 * (k : Int)) = 8 * (k : Int) := IntWalk.i64_in _ (by omega)
              have hpt : ((p : Int) + (k : Int)).toNat = p + k := by omega
              have hpz : (p : Int) + (k : Int) < (f.length : Int) := by omega
              have hpz0 : (0 : Int) ≤ (p : Int) + (k : Int) := by omega
              have hx0 : sbyte n k = 0 ∨ (sbyte n k ≠ 0 ∧ ((sbyte n k).toNat : Int) ≠ 0) := by
                by_cases h : sbyte n k = 0
                · exact Or.inl h
                · refine Or.inr ⟨h, fun e => h ?_⟩
                  apply UInt8.toNat_inj.1
                  show _ = 0
                  omega
              clear hBk hcur HTOLD HG
              generalize f[p + k] ^^^ sbyte n k = z at *
              generalize f[p + k] = a at *
              generalize chg n k = ck at *
              generalize sbyte n k = x at *
              rcases hx0 with hx | ⟨hx, hx'⟩
              · subst hx
                have hX0 : bits BinOp.xor IntKind.u8 ((a.toNat : Nat) : Int) 0 = ((z.toNat : Nat) : Int) := hX
                clear hX
                cases ck
                all_goals
                  go_wp2_with fail
                  refine wp_region_late (fun w' => w'.cell? ⟨B, p + k, none⟩ = some (.int .u8 (a.toNat : Int))) [13] (by kernel_rfl) (SK.out _ (Frm.refl _ _).drew) (fun hHeld => ?_)
                  refine wpLate_take0 (i := 0) (oi := _) (v := _) rfl (by kernel_rfl) (by kernel_rfl) (by kernel_rfl) (by kernel_rfl) (fun _ _ _ h => h) (Or.inl ⟨by rfl, by intro w _; go_simp; all_goals with_reducible rfl⟩) (fun _ => by assumption) ?_
                  (try simp only [Act.put, List.getElem_toArray, List.getElem_cons_zero, List.setIfInBounds_toArray, List.set_cons_zero, List.set_cons_succ])
                  refine wpLate_take0 (i := 1) (oi := _) (v := _) rfl (by kernel_rfl) (by kernel_rfl) (by kernel_rfl) (by kernel_rfl) (fun _ _ _ h => h) (Or.inl ⟨by rfl, by intro w _; go_simp; all_goals with_reducible rfl⟩) (fun _ => by assumption) ?_
                  (try simp only [Act.put, List.getElem_toArray, List.getElem_cons_succ, List.getElem_cons_zero, List.setIfInBounds_toArray, List.set_cons_zero, List.set_cons_succ])
                  refine wpLate_take0 (i := 2) (oi := _) (v := _) rfl (by kernel_rfl) (by kernel_rfl) (by kernel_rfl) (by kernel_rfl) (fun _ _ _ h => h) (Or.inl ⟨by rfl, by intro w _; go_simp; all_goals with_reducible rfl⟩) (fun _ => by assumption) ?_
                  (try simp only [Act.put, List.getElem_toArray, List.getElem_cons_succ, List.getElem_cons_zero, List.setIfInBounds_toArray, List.set_cons_zero, List.set_cons_succ])
                  refine wpLate_take0 (i := 3) (oi := _) (v := _) rfl (by kernel_rfl) (by kernel_rfl) (by kernel_rfl) (by kernel_rfl) (fun _ _ _ h => h) (Or.inl ⟨by rfl, by intro w _; go_simp; all_goals with_reducible rfl⟩) (fun _ => by assumption) ?_
                  (try simp only [Act.put, List.getElem_toArray, List.getElem_cons_succ, List.getElem_cons_zero, List.setIfInBounds_toArray, List.set_cons_zero, List.set_cons_succ])
                  refine wpLate_take0 (i := 4) (oi := _) (v := _) rfl (by kernel_rfl) (by kernel_rfl) (by kernel_rfl) (by kernel_rfl) (fun _ _ _ h => h) (Or.inl ⟨by rfl, by intro w _; go_simp; all_goals with_reducible rfl⟩) (fun _ => by assumption) ?_
                  (try simp only [Act.put, List.getElem_toArray, List.getElem_cons_succ, List.getElem_cons_zero, List.setIfInBounds_toArray, List.set_cons_zero, List.set_cons_succ])
                  refine wpLate_take [11, 13] (i := 5) (oi := _) (v := _) rfl (by kernel_rfl) (by kernel_rfl) (by kernel_rfl) (by kernel_rfl) (by kernel_rfl) (fun _ _ _ h => h) (Or.inl ⟨by rfl, by intro w hSw; (try dsimp only at hSw); go_simp; all_goals with_reducible rfl⟩) (by assumption) ?_
                  (try simp only [Act.put, List.getElem_toArray, List.getElem_cons_succ, List.getElem_cons_zero, List.setIfInBounds_toArray, List.set_cons_zero, List.set_cons_succ])
                  refine wpLate_take0 (i := 6) (oi := _) (v := _) rfl (by kernel_rfl) (by kernel_rfl) (by kernel_rfl) (by kernel_rfl) (fun _ _ _ h => h) (Or.inl ⟨by rfl, by intro w _; go_simp; all_goals with_reducible rfl⟩) (fun _ => by assumption) ?_
                  (try simp only [Act.put, List.getElem_toArray, List.getElem_cons_succ, List.getElem_cons_zero, List.setIfInBounds_toArray, List.set_cons_zero, List.set_cons_succ])
                  refine wpLate_take0 (i := 7) (oi := _) (v := _) rfl (by kernel_rfl) (by kernel_rfl) (by kernel_rfl) (by kernel_rfl) (fun _ _ _ h => h) (Or.inl ⟨by rfl, by intro w _; go_simp; all_goals with_reducible rfl⟩) (fun _ => by assumption) ?_
                  (try simp only [Act.put, List.getElem_toArray, List.getElem_cons_succ, List.getElem_cons_zero, List.setIfInBounds_toArray, List.set_cons_zero, List.set_cons_succ])
                  refine wpLate_take0 (i := 8) (oi := _) (v := _) rfl (by kernel_rfl) (by kernel_rfl) (by kernel_rfl) (by kernel_rfl) (fun _ _ _ h => h) (Or.inl ⟨by rfl, by intro w _; go_simp; all_goals with_reducible rfl⟩) (fun _ => by assumption) ?_
                  (try simp only [Act.put, List.getElem_toArray, List.getElem_cons_succ, List.getElem_cons_zero, List.setIfInBounds_toArray, List.set_cons_zero, List.set_cons_succ])
                  refine wpLate_take0 (i := 9) (oi := _) (v := _) rfl (by kernel_rfl) (by kernel_rfl) (by kernel_rfl) (by kernel_rfl) (fun _ _ _ h => h) (Or.inl ⟨by rfl, by intro w _; go_simp; all_goals with_reducible rfl⟩) (fun _ => by assumption) ?_
                  (try simp only [Act.put, List.getElem_toArray, List.getElem_cons_succ, List.getElem_cons_zero, List.setIfInBounds_toArray, List.set_cons_zero, List.set_cons_succ])
                  refine wpLate_take0 (i := 10) (oi := _) (v := _) rfl (by kernel_rfl) (by kernel_rfl) (by kernel_rfl) (by kernel_rfl) (fun _ _ _ h => h) (Or.inl ⟨by rfl, by intro w _; go_simp; all_goals with_reducible rfl⟩) (fun _ => by assumption) ?_
                  (try simp only [Act.put, List.getElem_toArray, List.getElem_cons_succ, List.getElem_cons_zero, List.setIfInBounds_toArray, List.set_cons_zero, List.set_cons_succ])
                  refine wpLate_take0 (i := 11) (oi := _) (v := _) rfl (by kernel_rfl) (by kernel_rfl) (by kernel_rfl) (by kernel_rfl) (fun _ _ _ h => h) (Or.inl ⟨by rfl, by intro w _; go_simp; all_goals with_reducible rfl⟩) (fun _ => by assumption) ?_
                  (try simp only [Act.put, List.getElem_toArray, List.getElem_cons_succ, List.getElem_cons_zero, List.setIfInBounds_toArray, List.set_cons_zero, List.set_cons_succ])
                  refine wpLate_take0 (i := 12) (oi := _) (v := _) rfl (by kernel_rfl) (by kernel_rfl) (by kernel_rfl) (by kernel_rfl) (fun _ _ _ h => h) (Or.inl ⟨by rfl, by intro w _; go_simp; all_goals with_reducible rfl⟩) (fun _ => by assumption) ?_
                  (try simp only [Act.put, List.getElem_toArray, List.getElem_cons_succ, List.getElem_cons_zero, List.setIfInBounds_toArray, List.set_cons_zero, List.set_cons_succ])
                  refine wpLate_ready (rs := [13]) (by kernel_rfl) (by simp) ?_
                  refine (AllReadyL.late (i := 13) rfl (by kernel_rfl) (fun K hK => ?_) AllReadyL.nil)
                  simp only [List.getElem_toArray, List.getElem_cons_succ, List.getElem_cons_zero]
                  go_simp
                  refine hK.out _ _ ?_
                  clear hK K
                  (try simp only [Act.put, List.getElem_toArray, List.getElem_cons_succ, List.getElem_cons_zero, List.setIfInBounds_toArray, List.set_cons_zero, List.set_cons_succ])
                  refine wpLate_done (by kernel_rfl) ?_ _
                  go_wp2_with fail
                  exact ⟨⟨k + 1, by omega, by omega, by go_num, by rw [HC.out]; rfl, HST.out, (hf.setCell (p := ⟨B, p + k, none⟩) (fun h => by simp at h; omega) _).drew⟩, by simp [intOf]; omega⟩
              · have hxb : (x != 0) = true := by simpa using hx
                have hxe : (((x.toNat : Nat) : Int) == 0) = false := by simpa using hx'
                rw [hxb, Bool.or_true] at HC
                clear hx hx' hxb
                cases ck
                all_goals
                  go_wp2_with fail
                  refine wp_region_late (fun w' => w'.cell? ⟨B, p + k, none⟩ = some (.int .u8 (a.toNat : Int))) [13] (by kernel_rfl) (SK.out _ (Frm.refl _ _).drew) (fun hHeld => ?_)
                  refine wpLate_take0 (i := 0) (oi := _) (v := _) rfl (by kernel_rfl) (by kernel_rfl) (by kernel_rfl) (by kernel_rfl) (fun _ _ _ h => h) (Or.inl ⟨by rfl, by intro w _; go_simp; all_goals with_reducible rfl⟩) (fun _ => by assumption) ?_
                  (try simp only [Act.put, List.getElem_toArray, List.getElem_cons_zero, List.setIfInBounds_toArray, List.set_cons_zero, List.set_cons_succ])
                  refine wpLate_take0 (i := 1) (oi := _) (v := _) rfl (by kernel_rfl) (by kernel_rfl) (by kernel_rfl) (by kernel_rfl) (fun _ _ _ h => h) (Or.inl ⟨by rfl, by intro w _; go_simp; all_goals with_reducible rfl⟩) (fun _ => by assumption) ?_
                  (try simp only [Act.put, List.getElem_toArray, List.getElem_cons_succ, List.getElem_cons_zero, List.setIfInBounds_toArray, List.set_cons_zero, List.set_cons_succ])
                  refine wpLate_take0 (i := 2) (oi := _) (v := _) rfl (by kernel_rfl) (by kernel_rfl) (by kernel_rfl) (by kernel_rfl) (fun _ _ _ h => h) (Or.inl ⟨by rfl, by intro w _; go_simp; all_goals with_reducible rfl⟩) (fun _ => by assumption) ?_
                  (try simp only [Act.put, List.getElem_toArray, List.getElem_cons_succ, List.getElem_cons_zero, List.setIfInBounds_toArray, List.set_cons_zero, List.set_cons_succ])
                  refine wpLate_take0 (i := 3) (oi := _) (v := _) rfl (by kernel_rfl) (by kernel_rfl) (by kernel_rfl) (by kernel_rfl) (fun _ _ _ h => h) (Or.inl ⟨by rfl, by intro w _; go_simp; all_goals with_reducible rfl⟩) (fun _ => by assumption) ?_
                  (try simp only [Act.put, List.getElem_toArray, List.getElem_cons_succ, List.getElem_cons_zero, List.setIfInBounds_toArray, List.set_cons_zero, List.set_cons_succ])
                  refine wpLate_take0 (i := 4) (oi := _) (v := _) rfl (by kernel_rfl) (by kernel_rfl) (by kernel_rfl) (by kernel_rfl) (fun _ _ _ h => h) (Or.inl ⟨by rfl, by intro w _; go_simp; all_goals with_reducible rfl⟩) (fun _ => by assumption) ?_
                  (try simp only [Act.put, List.getElem_toArray, List.getElem_cons_succ, List.getElem_cons_zero, List.setIfInBounds_toArray, List.set_cons_zero, List.set_cons_succ])
                  refine wpLate_take [11, 13] (i := 5) (oi := _) (v := _) rfl (by kernel_rfl) (by kernel_rfl) (by kernel_rfl) (by kernel_rfl) (by kernel_rfl) (fun _ _ _ h => h) (Or.inl ⟨by rfl, by intro w hSw; (try dsimp only at hSw); go_simp; all_goals with_reducible rfl⟩) (by assumption) ?_
                  (try simp only [Act.put, List.getElem_toArray, List.getElem_cons_succ, List.getElem_cons_zero, List.setIfInBounds_toArray, List.set_cons_zero, List.set_cons_succ])
                  refine wpLate_take0 (i := 6) (oi := _) (v := _) rfl (by kernel_rfl) (by kernel_rfl) (by kernel_rfl) (by kernel_rfl) (fun _ _ _ h => h) (Or.inl ⟨by rfl, by intro w _; go_simp; all_goals with_reducible rfl⟩) (fun _ => by assumption) ?_
                  (try simp only [Act.put, List.getElem_toArray, List.getElem_cons_succ, List.getElem_cons_zero, List.setIfInBounds_toArray, List.set_cons_zero, List.set_cons_succ])
                  refine wpLate_take0 (i := 7) (oi := _) (v := _) rfl (by kernel_rfl) (by kernel_rfl) (by kernel_rfl) (by kernel_rfl) (fun _ _ _ h => h) (Or.inl ⟨by rfl, by intro w _; go_simp; all_goals with_reducible rfl⟩) (fun _ => by assumption) ?_
                  (try simp only [Act.put, List.getElem_toArray, List.getElem_cons_succ, List.getElem_cons_zero, List.setIfInBounds_toArray, List.set_cons_zero, List.set_cons_succ])
                  refine wpLate_take0 (i := 8) (oi := _) (v := _) rfl (by kernel_rfl) (by kernel_rfl) (by kernel_rfl) (by kernel_rfl) (fun _ _ _ h => h) (Or.inl ⟨by rfl, by intro w _; go_simp; all_goals with_reducible rfl⟩) (fun _ => by assumption) ?_
                  (try simp only [Act.put, List.getElem_toArray, List.getElem_cons_succ, List.getElem_cons_zero, List.setIfInBounds_toArray, List.set_cons_zero, List.set_cons_succ])
                  refine wpLate_take0 (i := 9) (oi := _) (v := _) rfl (by kernel_rfl) (by kernel_rfl) (by kernel_rfl) (by kernel_rfl) (fun _ _ _ h => h) (Or.inl ⟨by rfl, by intro w _; go_simp; all_goals with_reducible rfl⟩) (fun _ => by assumption) ?_
                  (try simp only [Act.put, List.getElem_toArray, List.getElem_cons_succ, List.getElem_cons_zero, List.setIfInBounds_toArray, List.set_cons_zero, List.set_cons_succ])
                  refine wpLate_take0 (i := 10) (oi := _) (v := _) rfl (by kernel_rfl) (by kernel_rfl) (by kernel_rfl) (by kernel_rfl) (fun _ _ _ h => h) (Or.inl ⟨by rfl, by intro w _; go_simp; all_goals with_reducible rfl⟩) (fun _ => by assumption) ?_
                  (try simp only [Act.put, List.getElem_toArray, List.getElem_cons_succ, List.getElem_cons_zero, List.setIfInBounds_toArray, List.set_cons_zero, List.set_cons_succ])
                  refine wpLate_take0 (i := 11) (oi := _) (v := _) rfl (by kernel_rfl) (by kernel_rfl) (by kernel_rfl) (by kernel_rfl) (fun _ _ _ h => h) (Or.inl ⟨by rfl, by intro w _; go_simp; all_goals with_reducible rfl⟩) (fun _ => by assumption) ?_
                  (try simp only [Act.put, List.getElem_toArray, List.getElem_cons_succ, List.getElem_cons_zero, List.setIfInBounds_toArray, List.set_cons_zero, List.set_cons_succ])
                  refine wpLate_take0 (i := 12) (oi := _) (v := _) rfl (by kernel_rfl) (by kernel_rfl) (by kernel_rfl) (by kernel_rfl) (fun _ _ _ h => h) (Or.inl ⟨by rfl, by intro w _; go_simp; all_goals with_reducible rfl⟩) (fun _ => by assumption) ?_
                  (try simp only [Act.put, List.getElem_toArray, List.getElem_cons_succ, List.getElem_cons_zero, List.setIfInBounds_toArray, List.set_cons_zero, List.set_cons_succ])
                  refine wpLate_ready (rs := [13]) (by kernel_rfl) (by simp) ?_
                  refine (AllReadyL.late (i := 13) rfl (by kernel_rfl) (fun K hK => ?_) AllReadyL.nil)
                  simp only [List.getElem_toArray, List.getElem_cons_succ, List.getElem_cons_zero]
                  go_simp
                  refine hK.out _ _ ?_
                  clear hK K
                  (try simp only [Act.put, List.getElem_toArray, List.getElem_cons_succ, List.getElem_cons_zero, List.setIfInBounds_toArray, List.set_cons_zero, List.set_cons_succ])
                  refine wpLate_done (by kernel_rfl) ?_ _
                  go_wp2_with fail
                  exact ⟨⟨k + 1, by omega, by omega, by go_num, by first | (rw [HC.out]; done) | (rw [HC.out]; simp only [bne, hxe, Bool.not_false]), HST.out, (hf.setCell (p := ⟨B, p + k, none⟩) (fun h => by simp at h; omega) _).drew⟩, by simp [intOf]; omega⟩
            · as_aux_lemma =>
              have hTr := HT.out.no hf
              have hcv := run_convert_cells (P := Tryd.prog) (w := wr) Tryd.underlying48 Tryd.underlying5 Tryd.underlying9 B 0 f.length cap (turned f n p k) (turned_length _ _ _ _) (fun i hi => by rw [Nat.zero_add]; exact (hBk i hi).1)
              have htl := turned_length f n p k
              have hHG := HG.out wr hTr
              have hk4 : (k : Int) < 4 ∨ ¬ (k : Int) < 4 := by omega
              have hkz2 : (k : Int) < 4 → ¬ (k : Int) < (f.length : Int) - (p : Int) := by omega
              cases hck : chg n k
              · have hsame := turned_same (s := f) (p := p) hck
                rw [hsame] at hcv
                have HO1 := hid hHG
                clear HTOLD hsame hBk hck htl HG hHG
                rcases hk4 with hkk | hkk
                all_goals
                  try have hkz3 := hkz2 hkk
                  clear hkz2
                  go_wp2_with (go_at_call 14; refine HO1.out.mono ?_; rintro e5 w5 ⟨kv, ev, rfl, hms, hf5⟩; obtain ⟨ka, kc, rfl⟩ := hms.kr.shape; obtain ⟨ea, ec, rfl⟩ := hms.er.shape)
                  go_ret
                  exact ⟨rfl, (hf.thenNo hf5).alloc _⟩
              · have hne := HTOLD.out k hk p hpk hck
                have HO1 := hid (mget_badz (turned f n p k) 3 wr (by decide) hne (by omega) hTr)
                clear HTOLD hBk hck HG hne hHG
                generalize turned f n p k = tt at *
                rcases hk4 with hkk | hkk
                all_goals
                  try have hkz3 := hkz2 hkk
                  clear hkz2
                  go_wp2_with (go_at_call 14; refine HO1.out.mono ?_; rintro e5 w5 ⟨er, rfl, her, hf5⟩; have her' : (er != 0) = true := by simpa using her)
                  go_ret
                  exact ⟨rfl, (hf.thenNo hf5).alloc _⟩
    · go_wp2_with fail
      go_ret
      exact ⟨rfl, hF1⟩
theorem msgspoilt_x (x : Ms × Value × Value) (at_ : Int) (ha : -9223372036854775808 ≤ at_ ∧ at_ ≤ 9223372036854775807) (by_ : Int) (hb : 0 ≤ by_ ∧ by_ ≤ 4294967295) (w : World) (hT : Tab w) (h : RawK w x.1 x.2.1 x.2.2) :
    Calls Tryd.prog 4 #[rawV x.1 x.2.1 x.2.2, .int .i64 at_, .int .u32 by_] w fun e w' => e = .returned (.bool true) ∧ Frm No w w' := msgspoilt x.1 x.2.1 x.2.2 at_ ha by_ hb w hT h
end Go.Proofs.YtlnmefpndgmenaaDoor
