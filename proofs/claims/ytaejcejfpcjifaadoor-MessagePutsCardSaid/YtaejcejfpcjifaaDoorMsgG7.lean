/- Which messages are good. -/
import Derived.Test.YtaejcejfpcjifaaDoorMsgG5
import Derived.Test.YtaejcejfpcjifaaDoorMsgG6
namespace Go.Proofs.YtaejcejfpcjifaaDoor
open Go.RowKit
open Msg

theorem shape_wok {m : Ms} {r : Int} (h1 : amt r = true) (h2 : headG m r = true) (h3 : (nums m).all num = true) (h4 : lens m = true) (h5 : m.entries.all entG = true) (h6 : fits m = true) : WOk m := by
  have hr : r = 3 ∨ r = 5 ∨ r = 7 := by simpa [amt, or_assoc] using h1
  simp only [nums, List.all_append, List.all_cons, List.all_nil, Bool.and_eq_true, and_true] at h3
  obtain ⟨k0, k1, k2, k3, k4, k5, k6, k7, k8, k9⟩ := h3
  simp only [lens, Bool.and_eq_true, decide_eq_true_eq] at h4
  refine ⟨fun hk => ?_, k0, k1, k2, k3, k4, k5, k6, k7, k8, k9, by omega, by omega, h5, h4.2, ?_, fun hk => ?_⟩
  · simp only [headG, if_neg hk, Bool.and_eq_true, decide_eq_true_eq] at h2
    simp only [Msg.num, Bool.and_eq_true, decide_eq_true_eq]
    omega
  · unfold headG at h2
    split at h2
    · simp only [decide_eq_true_eq] at h2
      rw [h2]
      exact Nat.zero_le _
    · simp only [Bool.and_eq_true, decide_eq_true_eq] at h2
      omega
  · unfold fits at h6
    rw [if_neg (by omega), if_pos hk] at h6
    simp only [Bool.and_eq_true, decide_eq_true_eq] at h6
    exact h6.1.1
theorem head_one {m : Ms} {r : Int} (h : headG m r = true) : m.kind = 1 → m.known = [] := fun hk => by
  simpa [headG, hk] using h
/-- Small enough to be looked at. -/
structure Sml (m : Ms) : Prop where
  known : m.known.length ≤ 100000
  ents : m.entries.length ≤ 100000
  text : m.text.length ≤ 9223372036854775807
  state : m.state.length ≤ 9223372036854775807
  texts : ∀ x ∈ m.entries, x.text.length ≤ 9223372036854775807

theorem good_noD {m : Ms} {r : Int} (h : (lens m && m.entries.all entG) = false) : good m r = false := by
  unfold good Msg.shape
  revert h
  generalize lens m = x
  generalize m.entries.all entG = y
  intro h
  cases x <;> cases y <;> simp_all
theorem all_take (l : List Int) (k : Nat) (h : k < l.length) (ha : (l.take k).all Msg.num = true) : (l.take (k + 1)).all Msg.num = Msg.num l[k] := by
  rw [List.take_succ_eq_append_getElem h, List.all_append, ha]
  simp
theorem all_no (l : List Int) (k : Nat) (h : (l.take k).all Msg.num = false) : l.all Msg.num = false := by
  rw [← List.take_append_drop k l, List.all_append, h]
  rfl
set_option maxRecDepth 100000 in
set_option maxHeartbeats 8000000 in
theorem good_any (m : Ms) (kv ev : Value) (r : Int) (w : World) (hS : Sml m) (hr : MsR w m kv ev) :
    Calls Tryd.prog 9 #[msV m kv ev, .int .i64 r] w fun e w' => e = .returned (.bool (good m r)) ∧ Frm No w w' := by
  have HM := hid hr
  have HSm := hid hS
  have l1 := hS.known
  have l2 := hS.ents
  have l3 := hS.text
  have l4 := hS.state
  obtain ⟨kao, kcp, rfl⟩ := hr.kr.shape
  obtain ⟨eao, ecp, rfl⟩ := hr.er.shape
  have HAm := hid (amount_any r)
  clear hS hr
  have HV : Hid (msV m (.slice kao m.known.length kcp) (.slice eao m.entries.length ecp) = .agg #[.int .i64 m.kind, .int .i64 m.from_, .int .i64 m.born, .slice kao m.known.length kcp, .int .i64 m.view, .int .i64 m.last, .int .i64 m.op, .int .i64 m.commit, .int .i64 m.client, .int .i64 m.number, .int .i64 m.nonce, .string ⟨m.text.toArray⟩, .bool m.full, .int .i64 m.base, .string ⟨m.state.toArray⟩, .slice eao m.entries.length ecp]) := hid rfl
  rw [HV.out]
  go_enter Tryd.func9, Tryd.ntmps9
  go_upto_region 1 with fail
  go_cut [19] from 7 to 18 (fun t wq => t = .bool (!(amt r && kindG m)) ∧ wq = w.alloc (.cells #[.int .i64 m.kind, .int .i64 m.from_, .int .i64 m.born, .slice kao m.known.length kcp, .int .i64 m.view, .int .i64 m.last, .int .i64 m.op, .int .i64 m.commit, .int .i64 m.client, .int .i64 m.number, .int .i64 m.nonce, .string ⟨m.text.toArray⟩, .bool m.full, .int .i64 m.base, .string ⟨m.state.toArray⟩, .slice eao m.entries.length ecp] 31))
  case first =>
    have HK : Hid (kindG m = (decide (1 ≤ m.kind) && decide (m.kind ≤ 12))) := hid rfl
    generalize amt r = a at *
    generalize kindG m = g at *
    cases a
    · go_wp2_with (go_at_call 23; refine (HAm.out _).mono ?_; rintro e w1 ⟨rfl, rfl⟩)
      all_goals
        go_meet
        exact ⟨by simp, rfl⟩
    · go_wp2_with (go_at_call 23; refine (HAm.out _).mono ?_; rintro e w1 ⟨rfl, rfl⟩)
      all_goals
        go_meet
        exact ⟨by rw [HK.out]; first | (simp <;> omega) | (congr 1; rw [Bool.eq_iff_iff]; simp <;> omega) | (simp [*]; done), rfl⟩
  case rest =>
    obtain ⟨rfl, rfl⟩ := hcut
    cases hA : (amt r && kindG m)
    · as_aux_lemma =>
      have hG : good m r = false := by simp only [good, Msg.shape, hA, Bool.false_and]
      rw [Bool.not_false]
      go_wp2_with fail
      go_ret
      exact ⟨(congrArg (fun b => Ending.returned (Value.bool b)) hG).symm, (Frm.refl No w).alloc _⟩
    rw [Bool.not_true]
    obtain ⟨hA1, hA2⟩ : amt r = true ∧ kindG m = true := by simpa using hA
    have HA1 := hid hA1
    have HA2 := hid hA2
    clear hA hA1 hA2
    go_upto_region 3 with fail
    go_cut [0, 51] from 20 to 50 (fun _ t wq => t = .bool (!headG m r) ∧ wq = w.alloc (.cells #[.int .i64 m.kind, .int .i64 m.from_, .int .i64 m.born, .slice kao m.known.length kcp, .int .i64 m.view, .int .i64 m.last, .int .i64 m.op, .int .i64 m.commit, .int .i64 m.client, .int .i64 m.number, .int .i64 m.nonce, .string ⟨m.text.toArray⟩, .bool m.full, .int .i64 m.base, .string ⟨m.state.toArray⟩, .slice eao m.entries.length ecp] 31))
    case first =>
      as_aux_lemma =>
      by_cases hk : m.kind = 1
      · have e1 : (m.kind == 1) = true := by simpa using hk
        have HH : Hid (headG m r = decide (m.known = [])) := hid (by simp [headG, hk])
        have hz : (m.known.length : Int) ≤ 9223372036854775807 := by omega
        have HL : Hid ((!decide (m.known = [])) = decide ((0 : Int) < (m.known.length : Int))) := hid (by rw [Bool.eq_iff_iff]; cases m.known <;> simp <;> omega)
        go_wp2_with fail
        all_goals
          go_meet
          exact ⟨by rw [HH.out, HL.out]; first | (simp <;> omega) | (congr 1; rw [Bool.eq_iff_iff]; simp <;> omega) | (simp [*] <;> omega) | (congr 1; rw [Bool.eq_iff_iff]; simp [*] <;> omega) | simp_all, by first | rfl | simp [*]⟩
      · have e1 : (m.kind == 1) = false := by simpa using hk
        have HH : Hid (headG m r = (decide ((m.known.length : Int) = r) && decide (0 ≤ m.from_) && decide (m.from_ < r))) := hid (by simp [headG, hk])
        go_wp2_with fail
        all_goals
          go_meet
          exact ⟨by rw [HH.out]; first | (simp <;> omega) | (congr 1; rw [Bool.eq_iff_iff]; simp <;> omega) | (simp [*]; done), by first | rfl | simp [*]⟩
    case rest =>
      obtain ⟨rfl, rfl⟩ := hcut
      cases hB : headG m r
      · as_aux_lemma =>
        have hG : good m r = false := by simp only [good, Msg.shape, hB, Bool.and_false, Bool.false_and]
        rw [Bool.not_false]
        go_wp2_with fail
        go_ret
        exact ⟨(congrArg (fun b => Ending.returned (Value.bool b)) hG).symm, (Frm.refl No w).alloc _⟩
      rw [Bool.not_true]
      have HB := hid hB
      clear hB
      have hrd := HM.out.kr
      go_wp2_with fail
      refine (concat_ints m.known [m.born, m.view, m.last, m.op, m.commit, m.client, m.number, m.nonce, m.base] (.slice kao m.known.length kcp) (.slice (some ⟨w.heap.size + 1, 0, none⟩) 9 9) _ _ ?h0 ?h1 ?hu ?hv ?ha ?hb).mono ?_
      case h0 => exact (BC.newAt _ [.slice kao m.known.length kcp, .slice (some ⟨w.heap.size + 1, 0, none⟩) 9 9] _ _ (by simp)).cell 0
      case h1 => exact (BC.newAt _ [.slice kao m.known.length kcp, .slice (some ⟨w.heap.size + 1, 0, none⟩) 9 9] _ _ (by simp)).cell 1
      case hu => exact hrd.frm (((Frm.refl No w).alloc _).alloc _ |>.alloc _) (fun _ _ h => h)
      case hv =>
        have := (BC.newAt (w.alloc (.cells #[.int .i64 m.kind, .int .i64 m.from_, .int .i64 m.born, .slice kao m.known.length kcp, .int .i64 m.view, .int .i64 m.last, .int .i64 m.op, .int .i64 m.commit, .int .i64 m.client, .int .i64 m.number, .int .i64 m.nonce, .string ⟨m.text.toArray⟩, .bool m.full, .int .i64 m.base, .string ⟨m.state.toArray⟩, .slice eao m.entries.length ecp] 31)) (intsV [m.born, m.view, m.last, m.op, m.commit, m.client, m.number, m.nonce, m.base]) 3 (w.heap.size + 1) (by simp)).frm (by simp) ((Frm.refl No _).alloc (.cells #[.slice kao m.known.length kcp, .slice (some ⟨w.heap.size + 1, 0, none⟩) 9 9] 23)) (fun h => h)
        exact this.rd
      case ha => simp
      case hb => simp only [List.length_cons, List.length_nil]; omega
      have hnums : m.known ++ [m.born, m.view, m.last, m.op, m.commit, m.client, m.number, m.nonce, m.base] = nums m := rfl
      rw [hnums]
      rintro e w1 ⟨z, rfl, hz, hf1⟩
      have hF1 : Frm No w w1 := ((((Frm.refl No w).alloc _).alloc _).alloc _).thenNo hf1
      have hlen : (nums m).length = m.known.length + 9 := by simp [nums]
      obtain ⟨zao, zc, rfl⟩ := ownsRow_shape hz
      have hrz := hid (Rd.ofOwn hz)
      have bM := hid (fun j => (hf1.cell (p := ⟨w.heap.size, j, none⟩) (by simp; omega) (fun h => h)).trans (Frm.box ((((Frm.refl No (w.alloc (.cells #[.int .i64 m.kind, .int .i64 m.from_, .int .i64 m.born, .slice kao m.known.length kcp, .int .i64 m.view, .int .i64 m.last, .int .i64 m.op, .int .i64 m.commit, .int .i64 m.client, .int .i64 m.number, .int .i64 m.nonce, .string ⟨m.text.toArray⟩, .bool m.full, .int .i64 m.base, .string ⟨m.state.toArray⟩, .slice eao m.entries.length ecp] 31))).alloc (.cells (intsV [m.born, m.view, m.last, m.op, m.commit, m.client, m.number, m.nonce, m.base]).toArray 3)).alloc (.cells #[.slice kao m.known.length kcp, .slice (some ⟨w.heap.size + 1, 0, none⟩) 9 9] 23))) j))
      clear hz hf1 hrd
      have hnl : (nums m).length ≤ 200000 := by omega
      obtain ⟨NS, hNS⟩ : ∃ NS, nums m = NS := ⟨_, rfl⟩
      have HNS := hid hNS
      rw [hNS] at hlen hnl hrz
      simp only [hNS]
      clear hNS hnums hlen
      go_wp2_with fail
      go_loopw [6, 76] (fun _ i wr => ∃ k : Nat, k ≤ NS.length ∧ i = .int .i64 (k : Int) ∧ (NS.take k).all Msg.num = true ∧ w1 = wr)
        (fun _ i _ => NS.length - (intOf i).toNat)
      case atStart => exact ⟨0, by omega, rfl, rfl, rfl⟩
      case round =>
        obtain ⟨k, hk, rfl, hall, rfl⟩ := hrel
        by_cases hkl : k < NS.length
        · as_aux_lemma =>
          have hkz : (k : Int) < (NS.length : Int) := by omega
          obtain ⟨b, o, rfl, hc⟩ := hrz.out.at_ (by omega)
          have hck := hc k (by omega)
          have hcell : w1.cell? ⟨b, o + k, none⟩ = some (.int .i64 NS[k]) := by rw [hck]; simp [intsV]
          have HT := hid (all_take NS k hkl hall)
          have HN := hid (number_any NS[k])
          obtain ⟨x, hx⟩ : ∃ x, NS[k] = x := ⟨_, rfl⟩
          rw [hx] at hcell HT HN
          clear hck hc hall hx bM HA1 HA2 HB HAm HM HSm
          cases hn : Msg.num x
          · rw [hn] at HN HT
            have hG : good m r = false := by simp only [good, Msg.shape, HNS.out, all_no NS (k + 1) HT.out, Bool.and_false, Bool.false_and]
            go_wp2_with (go_at_call 25; refine (HN.out _).mono ?_; rintro e w2 ⟨rfl, rfl⟩)
            go_ret
            exact ⟨(congrArg (fun b => Ending.returned (Value.bool b)) hG).symm, hF1⟩
          · rw [hn] at HN HT
            go_wp2_with (go_at_call 25; refine (HN.out _).mono ?_; rintro e w2 ⟨rfl, rfl⟩)
            exact ⟨⟨k + 1, by omega, by go_num, HT.out, trivial⟩, by simp [intOf]; omega⟩
        · as_aux_lemma =>
          obtain rfl : k = NS.length := by omega
          rw [List.take_length, ← HNS.out] at hall
          have HC := hid hall
          have hF1' := hid hF1
          clear hall hrz hF1
          go_upto_region 11 with fail
          have bMo := bM.out
          have HCB := hid (contains_bad m.entries (.slice eao m.entries.length ecp) w1 (HM.out.no hF1'.out).er (by omega) HSm.out.texts)
          go_cut [0, 104] from 84 to 103 (fun _ t wq => t = .bool (!(lens m && m.entries.all entG)) ∧ Frm No w1 wq)
          case first =>
            as_aux_lemma =>
            have HL : Hid (lens m = (decide (m.text.length ≤ 8192) && decide (m.state.length ≤ 65536) && decide (m.entries.length ≤ 64))) := hid rfl
            generalize m.entries.all entG = ga at *
            generalize lens m = gl at *
            go_wp2_with (go_at_call 26; refine HCB.out.mono ?_; rintro e w2 ⟨rfl, hf2⟩)
            all_goals
              go_meet
              exact ⟨by rw [HL.out]; first | (simp <;> omega) | (simp [*] <;> omega) | (cases ga <;> (congr 1; rw [Bool.eq_iff_iff]; simp <;> omega)), by first | exact Frm.refl _ _ | exact hf2⟩
          case rest =>
            as_aux_lemma =>
            obtain ⟨rfl, hfq⟩ := hcut
            cases hD : (lens m && m.entries.all entG)
            · as_aux_lemma =>
              have hG : good m r = false := good_noD hD
              rw [Bool.not_false]
              go_wp2_with fail
              go_ret
              exact ⟨(congrArg (fun b => Ending.returned (Value.bool b)) hG).symm, hF1'.out.thenNo hfq⟩
            rw [Bool.not_true]
            obtain ⟨hD1, hD2⟩ : lens m = true ∧ m.entries.all entG = true := by simpa using hD
            have hMc : ∀ j, wc.cell? ⟨w.heap.size, j, none⟩ = (#[.int .i64 m.kind, .int .i64 m.from_, .int .i64 m.born, .slice kao m.known.length kcp, .int .i64 m.view, .int .i64 m.last, .int .i64 m.op, .int .i64 m.commit, .int .i64 m.client, .int .i64 m.number, .int .i64 m.nonce, .string ⟨m.text.toArray⟩, .bool m.full, .int .i64 m.base, .string ⟨m.state.toArray⟩, .slice eao m.entries.length ecp] : Array Value)[j]? := fun j => (hfq.cell (p := ⟨w.heap.size, j, none⟩) (World.block_lt_of_cell? w1 ⟨w.heap.size, 0, none⟩ (bMo 0)) (fun h => h)).trans (bMo j)
            have hW := fun (hF : fits m = true) => shape_wok HA1.out HB.out HC.out hD1 hD2 hF
            have hops : Msg.num m.op = true ∧ Msg.num m.base = true := by
              have := HC.out
              simp only [nums, List.all_append, List.all_cons, List.all_nil, Bool.and_eq_true, and_true] at this
              exact ⟨this.2.2.2.2.1, this.2.2.2.2.2.2.2.2.2⟩
            have HFI := hid (fits_any m (.slice kao m.known.length kcp) (.slice eao m.entries.length ecp) wc HA2.out ⟨_, _, rfl⟩ (by omega) l4 hops)
            have hsh : good m r = (fits m && decide (proj m = m)) := by simp only [good, Msg.shape, HA1.out, HA2.out, HB.out, HC.out, hD1, hD2, Bool.true_and]
            have HG := hid hsh
            have hFq := hid (hF1'.out.thenNo hfq)
            unfold msV msC at HFI
            cases hE : fits m
            · rw [hE] at HFI HG
              clear bMo hfq hD hD1 hD2 hops hW hsh HA1 HA2 HC HB HCB HNS bM hE
              go_wp2_with (go_at_call 29; refine HFI.out.mono ?_; rintro e w3 ⟨rfl, hf3⟩)
              go_ret
              exact ⟨(congrArg (fun b => Ending.returned (Value.bool b)) HG.out).symm, hFq.out.thenNo hf3⟩
            · rw [hE] at HFI HG
              have HU := hid (fun w4 (hf : Frm No w w4) => used_any m (.slice kao m.known.length kcp) (.slice eao m.entries.length ecp) r w4 (hW hE) HA2.out (head_one HB.out) (HM.out.no hf))
              unfold msV msC at HU
              have hbl : w.heap.size < wc.heap.size := World.block_lt_of_cell? wc ⟨w.heap.size, 0, none⟩ (hMc 0)
              clear bMo hfq hD hD1 hD2 hops hW hsh HA1 HA2 HC HB HCB HNS bM hE
              generalize decide (proj m = m) = R at *
              go_wp2_with (first | (go_at_call 29; refine HFI.out.mono ?_; rintro e w3 ⟨rfl, hf3⟩; have hM3 := fun j => (hf3.cell (p := ⟨w.heap.size, j, none⟩) hbl (fun h => h)).trans (hMc j)) | (go_at_call 30; refine (HU.out _ (hFq.out.thenNo hf3)).mono ?_; rintro e w5 ⟨rfl, hf5⟩))
              go_ret
              exact ⟨(congrArg (fun b => Ending.returned (Value.bool b)) HG.out).symm, (hFq.out.thenNo hf3).thenNo hf5⟩
end Go.Proofs.YtaejcejfpcjifaaDoor
