/- Which messages are good, as the document says it. Printed by a program (msgref3.py, msgref3b.py). -/
import Derived.Test.YtaejcejfpcjifaaDoorMsgRef2
import Derived.Test.YtaejcejfpcjifaaDoorMsgG7
namespace Go.Proofs.YtaejcejfpcjifaaDoor
open Go.RowKit
open Msg

def ltrs : List UInt8 := [63, 63, 118, 108, 111, 99, 105, 110, 120, 84]
def allN (m : Ms) : List Int := [m.from_, m.born, m.view, m.last, m.op, m.commit, m.client, m.number, m.nonce, m.base]
def oursN (m : Ms) (k : Nat) : Bool := if k < 2 then decide (1 < m.kind) else Msg.has m (ltrs.getD k 0)
def okN (m : Ms) (k : Nat) : Bool := Msg.num ((allN m).getD k 0) && (oursN m k || decide ((allN m).getD k 0 = 0))
theorem numsR_iff (m : Ms) : numsR m = true ↔ ∀ i, i < 10 → okN m i = true := by
  have e : numsR m = (okN m 0 && okN m 1 && okN m 2 && okN m 3 && okN m 4 && okN m 5 && okN m 6 && okN m 7 && okN m 8 && okN m 9) := rfl
  rw [e]
  simp only [Bool.and_eq_true]
  constructor
  · rintro ⟨⟨⟨⟨⟨⟨⟨⟨⟨h0, h1⟩, h2⟩, h3⟩, h4⟩, h5⟩, h6⟩, h7⟩, h8⟩, h9⟩ i hi
    have : i = 0 ∨ i = 1 ∨ i = 2 ∨ i = 3 ∨ i = 4 ∨ i = 5 ∨ i = 6 ∨ i = 7 ∨ i = 8 ∨ i = 9 := by omega
    rcases this with rfl | rfl | rfl | rfl | rfl | rfl | rfl | rfl | rfl | rfl <;> assumption
  · intro h
    exact ⟨⟨⟨⟨⟨⟨⟨⟨⟨h 0 (by omega), h 1 (by omega)⟩, h 2 (by omega)⟩, h 3 (by omega)⟩, h 4 (by omega)⟩, h 5 (by omega)⟩, h 6 (by omega)⟩, h 7 (by omega)⟩, h 8 (by omega)⟩, h 9 (by omega)⟩
theorem numsR_not {m : Ms} {k : Nat} (hk : k < 10) (h : okN m k = false) : numsR m = false := by
  cases e : numsR m
  · rfl
  · rw [(numsR_iff m).1 e k hk] at h
    cases h
theorem num_of {n : Int} (h : Msg.num n = true) : 0 ≤ n ∧ n ≤ 9007199254740992 := by
  simpa [Msg.num] using h
theorem lets_le (m : Ms) : (lets m.kind m.full).length ≤ 1000000 := by
  have key : ∀ c : Prop, ∀ _ : Decidable c, ∀ a b : List UInt8, a.length ≤ 1000000 → b.length ≤ 1000000 → (if c then a else b).length ≤ 1000000 := fun c _ a b ha hb => by split <;> assumption
  unfold lets
  repeat (first | (refine key _ _ _ _ (by decide) ?_) | (refine key _ _ _ _ (key _ _ _ _ (by decide) (by decide)) ?_))
  decide
theorem allN_length (m : Ms) : (allN m).length = 10 := rfl
theorem entsR_take (es : List Ent) (k : Nat) (h : k < es.length) (ha : (es.take k).all entR = true) : (es.take (k + 1)).all entR = entR es[k] := by
  rw [List.take_succ_eq_append_getElem h, List.all_append, ha]
  simp
theorem entsR_no (l : List Ent) (k : Nat) (h : (l.take k).all entR = false) : l.all entR = false := by
  rw [← List.take_append_drop k l, List.all_append, h]
  rfl
set_option maxRecDepth 100000 in
set_option maxHeartbeats 40000000 in
theorem rgood_any (m : Ms) (kv ev : Value) (r : Int) (w : World) (hS : Sml m) (hr : MsR w m kv ev) :
    Calls Tryd.prog 7 #[msV m kv ev, .int .i64 r] w fun e w' => e = .returned (.bool (goodR m r)) ∧ Frm No w w' := by
  have HM := hid hr
  have HSm := hid hS
  have l1 := hS.known
  have l2 := hS.ents
  have l3 := hS.text
  have l4 := hS.state
  obtain ⟨kao, kcp, rfl⟩ := hr.kr.shape
  obtain ⟨eao, ecp, rfl⟩ := hr.er.shape
  clear hS hr
  have HFS := hid (fun (w1 : World) (hk : kindG m = true) => rfields_any m (.slice kao m.known.length kcp) (.slice eao m.entries.length ecp) w1 hk ⟨_, _, _, rfl⟩ ⟨_, _, _, rfl⟩)
  obtain ⟨F, hF⟩ : ∃ F, lets m.kind m.full = F := ⟨_, rfl⟩
  have HHas := hid (fun (c : UInt8) w1 => rmhas_any F c w1 (by rw [← hF]; exact lets_le m))
  simp only [hF] at HFS
  have HFE := hid hF
  clear hF
  have HG : Hid (goodR m r = (amt r && kindG m && numsR m && knownR m r && m.known.all Msg.num && lensR m && m.entries.all entR && endR m)) := hid rfl
  have HV : Hid (msV m (.slice kao m.known.length kcp) (.slice eao m.entries.length ecp) = .agg #[.int .i64 m.kind, .int .i64 m.from_, .int .i64 m.born, .slice kao m.known.length kcp, .int .i64 m.view, .int .i64 m.last, .int .i64 m.op, .int .i64 m.commit, .int .i64 m.client, .int .i64 m.number, .int .i64 m.nonce, .string ⟨m.text.toArray⟩, .bool m.full, .int .i64 m.base, .string ⟨m.state.toArray⟩, .slice eao m.entries.length ecp]) := hid rfl
  rw [HV.out]
  rw [HV.out] at HFS
  go_enter Tryd.func7, Tryd.ntmps7
  go_upto_region 1 with fail
  have bW := BC.new w [.int .i64 m.kind, .int .i64 m.from_, .int .i64 m.born, .slice kao m.known.length kcp, .int .i64 m.view, .int .i64 m.last, .int .i64 m.op, .int .i64 m.commit, .int .i64 m.client, .int .i64 m.number, .int .i64 m.nonce, .string ⟨m.text.toArray⟩, .bool m.full, .int .i64 m.base, .string ⟨m.state.toArray⟩, .slice eao m.entries.length ecp] 34
  have F0 : Frm No w (w.alloc (.cells #[.int .i64 m.kind, .int .i64 m.from_, .int .i64 m.born, .slice kao m.known.length kcp, .int .i64 m.view, .int .i64 m.last, .int .i64 m.op, .int .i64 m.commit, .int .i64 m.client, .int .i64 m.number, .int .i64 m.nonce, .string ⟨m.text.toArray⟩, .bool m.full, .int .i64 m.base, .string ⟨m.state.toArray⟩, .slice eao m.entries.length ecp] 34)) := (Frm.refl No w).alloc _
  obtain ⟨W, hW⟩ : ∃ W, w.alloc (.cells #[.int .i64 m.kind, .int .i64 m.from_, .int .i64 m.born, .slice kao m.known.length kcp, .int .i64 m.view, .int .i64 m.last, .int .i64 m.op, .int .i64 m.commit, .int .i64 m.client, .int .i64 m.number, .int .i64 m.nonce, .string ⟨m.text.toArray⟩, .bool m.full, .int .i64 m.base, .string ⟨m.state.toArray⟩, .slice eao m.entries.length ecp] 34) = W := ⟨_, rfl⟩
  have hlW : w.heap.size < W.heap.size := by rw [← hW]; simp
  rw [hW] at bW F0
  simp only [hW]
  clear hW
  obtain ⟨B, hB⟩ : ∃ B, w.heap.size = B := ⟨_, rfl⟩
  rw [hB] at bW hlW
  simp only [hB]
  have kM := bW.cell
  clear bW
  have HF0 := hid F0
  clear F0 hB
  have HKM := hid kM
  have HRE := hid (fun (wq : World) (hf : Frm No W wq) => fun j => (hf.cell (p := ⟨B, j, none⟩) hlW (fun h => h)).trans (HKM.out j))
  go_cut [1, 32] from 13 to 31 (fun rr t wq => rr = .int .i64 r ∧ t = .bool (!(amt r && kindG m)) ∧ wq = W)
  case first =>
    as_aux_lemma =>
    have HK : Hid ((amt r && kindG m) = ((decide (r = 3) || decide (r = 5) || decide (r = 7)) && (decide (1 ≤ m.kind) && decide (m.kind ≤ 12)))) := hid rfl
    go_wp2_with fail
    all_goals
      go_meet
      exact ⟨by first | rfl | simp [*], by rw [HK.out]; first | (simp <;> omega) | (congr 1; rw [Bool.eq_iff_iff]; simp <;> omega) | (simp [*]; done) | (congr 1; rw [Bool.eq_iff_iff]; simp [*] <;> omega), by first | rfl | simp [*]⟩
  case rest =>
    obtain ⟨rfl, rfl, hwq⟩ := hcut
    simp only [hwq]
    clear hwq
    cases hA : (amt r && kindG m)
    · as_aux_lemma =>
      have hG : goodR m r = false := by rw [HG.out, hA]; rfl
      rw [Bool.not_false]
      go_wp2_with fail
      go_ret
      exact ⟨(congrArg (fun b => Ending.returned (Value.bool b)) hG).symm, HF0.out⟩
    rw [Bool.not_true]
    obtain ⟨hA1, hA2⟩ : amt r = true ∧ kindG m = true := by simpa using hA
    rw [hA, Bool.true_and] at HG
    have HFI := hid (fun w1 => HFS.out w1 hA2)
    clear hA hA1 hA2 HFS
    go_upto_region 3 with fail
    go_cut [0, 5] from 33 to 34 (fun _ f wq => f = .string ⟨F.toArray⟩ ∧ Frm No W wq)
    case first =>
      as_aux_lemma =>
      clear HG HHas
      go_wp2_with (go_at_call 14; refine (HFI.out _).mono ?_; rintro e w1 ⟨rfl, hf1⟩)
      go_meet
      exact ⟨rfl, hf1⟩
    case rest =>
    obtain ⟨rfl, hf1⟩ := hcut
    obtain ⟨w1, hw1⟩ : ∃ w1, wc = w1 := ⟨_, rfl⟩
    rw [hw1] at hf1
    simp only [hw1]
    clear hw1
    have kM1 := HRE.out _ hf1
    go_upto_region 6 with fail
    have bN := BC.new w1 (intsV (allN m)) 3
    have hF2 : Frm No W (w1.alloc (.cells (intsV (allN m)).toArray 3)) := hf1.alloc _
    have hWW : ∃ W2, w1.alloc (.cells (intsV (allN m)).toArray 3) = W2 := ⟨_, rfl⟩
    have hcs : (intsV (allN m)).toArray = #[.int .i64 m.from_, .int .i64 m.born, .int .i64 m.view, .int .i64 m.last, .int .i64 m.op, .int .i64 m.commit, .int .i64 m.client, .int .i64 m.number, .int .i64 m.nonce, .int .i64 m.base] := rfl
    rw [hcs] at hWW hF2 bN
    obtain ⟨W2, hW2⟩ := hWW
    rw [hW2] at bN hF2
    simp only [hW2]
    have hlN : w1.heap.size < W2.heap.size := by rw [← hW2]; simp
    clear hW2 hcs
    obtain ⟨D, hD⟩ : ∃ D, w1.heap.size = D := ⟨_, rfl⟩
    rw [hD] at bN hlN
    simp only [hD]
    have hkN : ∀ k, k < 10 → W2.cell? ⟨D, k, none⟩ = some (.int .i64 ((allN m).getD k 0)) := fun k hk => by
      rw [bN.cell k]
      have : k = 0 ∨ k = 1 ∨ k = 2 ∨ k = 3 ∨ k = 4 ∨ k = 5 ∨ k = 6 ∨ k = 7 ∨ k = 8 ∨ k = 9 := by omega
      rcases this with rfl | rfl | rfl | rfl | rfl | rfl | rfl | rfl | rfl | rfl <;> rfl
    have HN := hid (fun (wq : World) (hf : Frm No W2 wq) k (hk : k < 10) => (hf.cell (p := ⟨D, k, none⟩) hlN (fun h => h)).trans (hkN k hk))
    have HFW := hid (HF0.out.thenNo hF2)
    have HR2 := hid (fun (wq : World) (hf : Frm No W2 wq) => HRE.out wq (hF2.thenNo hf))
    have HM2 := hid (fun (wq : World) (hf : Frm No W2 wq) => HM.out.no (HFW.out.thenNo hf))
    clear hD bN hkN hF2 hlN kM1 hf1 HFI HRE HKM HM HF0 kM hlW
    go_wp2_with fail
    go_loopw [8, 9] (fun i _ wr => ∃ k : Nat, k ≤ 10 ∧ i = .int .i64 (k : Int) ∧ (∀ j, j < k → okN m j = true) ∧ Frm No W2 wr)
      (fun i _ _ => 10 - (intOf i).toNat)
    case atStart => exact ⟨0, by omega, rfl, fun j hj => by omega, Frm.refl _ _⟩
    case round =>
      obtain ⟨k, hk, rfl, hall, hfr⟩ := hrel
      have HAll := hid hall
      clear hall
      have HFR := hid hfr
      have kM := HR2.out _ hfr
      by_cases hkl : k < 10
      · as_aux_lemma =>
        have kN := HN.out _ hfr k hkl
        clear hfr
        obtain ⟨x, hx⟩ : ∃ x, (allN m).getD k 0 = x := ⟨_, rfl⟩
        have HOK : Hid (okN m k = (Msg.num x && (oursN m k || decide (x = 0)))) := hid (by unfold okN; rw [hx])
        rw [hx] at kN
        have HX := hid hx
        clear hx
        have hkz : (k : Int) < 10 := by omega
        go_upto_region 9 with fail
        go_cut [9] from 62 to 79 (fun o wq => o = .bool (oursN m k) ∧ Frm No W2 wq)
        case first =>
          as_aux_lemma =>
          have HO : Hid (oursN m k = if k < 2 then decide (1 < m.kind) else decide ((ltrs.getD k 0) ∈ F)) := hid (by unfold oursN Msg.has; rw [HFE.out])
          clear HG HM2 HSm HFW HOK HX HAll HN kN
          by_cases hk2 : k < 2
          · have hk2z : (k : Int) < 2 := by omega
            have hk1z : ¬ (1 : Int) < (k : Int) := by omega
            rw [if_pos hk2] at HO
            by_cases hkd : 1 < m.kind
            · rw [decide_eq_true hkd] at HO
              go_wp2_with fail
              go_meet
              exact ⟨by rw [HO.out], HFR.out⟩
            · rw [decide_eq_false hkd] at HO
              go_wp2_with fail
              go_meet
              exact ⟨by rw [HO.out], HFR.out⟩
          · rw [if_neg hk2] at HO
            have hj : k = 2 ∨ k = 3 ∨ k = 4 ∨ k = 5 ∨ k = 6 ∨ k = 7 ∨ k = 8 ∨ k = 9 := by omega
            clear hk2 hkl
            rcases hj with rfl | rfl | rfl | rfl | rfl | rfl | rfl | rfl
            · have H1 : Hid (∀ w1, Calls Tryd.prog 15 #[.string ⟨F.toArray⟩, .int .u8 118] w1 fun e w' => e = .returned (.bool (decide ((118 : UInt8) ∈ F))) ∧ w1 = w') := hid (fun w1 => HHas.out 118 w1)
              have HO2 : Hid (oursN m 2 = decide ((118 : UInt8) ∈ F)) := HO
              clear HO HHas
              generalize decide ((118 : UInt8) ∈ F) = q at *
              go_wp2_with (go_at_call 15; refine (H1.out _).mono ?_; rintro e w2 ⟨rfl, rfl⟩)
              go_meet
              exact ⟨by rw [HO2.out], HFR.out⟩
            · have H1 : Hid (∀ w1, Calls Tryd.prog 15 #[.string ⟨F.toArray⟩, .int .u8 108] w1 fun e w' => e = .returned (.bool (decide ((108 : UInt8) ∈ F))) ∧ w1 = w') := hid (fun w1 => HHas.out 108 w1)
              have HO2 : Hid (oursN m 3 = decide ((108 : UInt8) ∈ F)) := HO
              clear HO HHas
              generalize decide ((108 : UInt8) ∈ F) = q at *
              go_wp2_with (go_at_call 15; refine (H1.out _).mono ?_; rintro e w2 ⟨rfl, rfl⟩)
              go_meet
              exact ⟨by rw [HO2.out], HFR.out⟩
            · have H1 : Hid (∀ w1, Calls Tryd.prog 15 #[.string ⟨F.toArray⟩, .int .u8 111] w1 fun e w' => e = .returned (.bool (decide ((111 : UInt8) ∈ F))) ∧ w1 = w') := hid (fun w1 => HHas.out 111 w1)
              have HO2 : Hid (oursN m 4 = decide ((111 : UInt8) ∈ F)) := HO
              clear HO HHas
              generalize decide ((111 : UInt8) ∈ F) = q at *
              go_wp2_with (go_at_call 15; refine (H1.out _).mono ?_; rintro e w2 ⟨rfl, rfl⟩)
              go_meet
              exact ⟨by rw [HO2.out], HFR.out⟩
            · have H1 : Hid (∀ w1, Calls Tryd.prog 15 #[.string ⟨F.toArray⟩, .int .u8 99] w1 fun e w' => e = .returned (.bool (decide ((99 : UInt8) ∈ F))) ∧ w1 = w') := hid (fun w1 => HHas.out 99 w1)
              have HO2 : Hid (oursN m 5 = decide ((99 : UInt8) ∈ F)) := HO
              clear HO HHas
              generalize decide ((99 : UInt8) ∈ F) = q at *
              go_wp2_with (go_at_call 15; refine (H1.out _).mono ?_; rintro e w2 ⟨rfl, rfl⟩)
              go_meet
              exact ⟨by rw [HO2.out], HFR.out⟩
            · have H1 : Hid (∀ w1, Calls Tryd.prog 15 #[.string ⟨F.toArray⟩, .int .u8 105] w1 fun e w' => e = .returned (.bool (decide ((105 : UInt8) ∈ F))) ∧ w1 = w') := hid (fun w1 => HHas.out 105 w1)
              have HO2 : Hid (oursN m 6 = decide ((105 : UInt8) ∈ F)) := HO
              clear HO HHas
              generalize decide ((105 : UInt8) ∈ F) = q at *
              go_wp2_with (go_at_call 15; refine (H1.out _).mono ?_; rintro e w2 ⟨rfl, rfl⟩)
              go_meet
              exact ⟨by rw [HO2.out], HFR.out⟩
            · have H1 : Hid (∀ w1, Calls Tryd.prog 15 #[.string ⟨F.toArray⟩, .int .u8 110] w1 fun e w' => e = .returned (.bool (decide ((110 : UInt8) ∈ F))) ∧ w1 = w') := hid (fun w1 => HHas.out 110 w1)
              have HO2 : Hid (oursN m 7 = decide ((110 : UInt8) ∈ F)) := HO
              clear HO HHas
              generalize decide ((110 : UInt8) ∈ F) = q at *
              go_wp2_with (go_at_call 15; refine (H1.out _).mono ?_; rintro e w2 ⟨rfl, rfl⟩)
              go_meet
              exact ⟨by rw [HO2.out], HFR.out⟩
            · have H1 : Hid (∀ w1, Calls Tryd.prog 15 #[.string ⟨F.toArray⟩, .int .u8 120] w1 fun e w' => e = .returned (.bool (decide ((120 : UInt8) ∈ F))) ∧ w1 = w') := hid (fun w1 => HHas.out 120 w1)
              have HO2 : Hid (oursN m 8 = decide ((120 : UInt8) ∈ F)) := HO
              clear HO HHas
              generalize decide ((120 : UInt8) ∈ F) = q at *
              go_wp2_with (go_at_call 15; refine (H1.out _).mono ?_; rintro e w2 ⟨rfl, rfl⟩)
              go_meet
              exact ⟨by rw [HO2.out], HFR.out⟩
            · have H1 : Hid (∀ w1, Calls Tryd.prog 15 #[.string ⟨F.toArray⟩, .int .u8 84] w1 fun e w' => e = .returned (.bool (decide ((84 : UInt8) ∈ F))) ∧ w1 = w') := hid (fun w1 => HHas.out 84 w1)
              have HO2 : Hid (oursN m 9 = decide ((84 : UInt8) ∈ F)) := HO
              clear HO HHas
              generalize decide ((84 : UInt8) ∈ F) = q at *
              go_wp2_with (go_at_call 15; refine (H1.out _).mono ?_; rintro e w2 ⟨rfl, rfl⟩)
              go_meet
              exact ⟨by rw [HO2.out], HFR.out⟩
        case rest =>
          as_aux_lemma =>
          obtain ⟨rfl, hfq⟩ := hcut
          obtain ⟨q, hq⟩ : ∃ q, oursN m k = q := ⟨_, rfl⟩
          simp only [hq] at HOK ⊢
          have kN := HN.out _ hfq k hkl
          rw [HX.out] at kN
          have HNum := hid (fun w1 => rmnumber_any x w1)
          have HFQ := hid hfq
          have HFF := hid (HFW.out.thenNo hfq)
          clear hq hfq kM HN HR2 HM2 HSm HHas HFR HX HFW
          have HNO : Hid (okN m k = false → goodR m r = false) := hid (fun h => by rw [HG.out, numsR_not hkl h]; rfl)
          have HYS : Hid (okN m k = true → ∀ j, j < k + 1 → okN m j = true) := hid (fun h j hj => by
            rcases Nat.lt_or_ge j k with h1 | h1
            · exact HAll.out j h1
            · obtain rfl : j = k := by omega
              exact h)
          clear HG HAll
          generalize Msg.num x = nn at *
          cases nn with
          | false =>
            have HGF := hid (HNO.out (by rw [HOK.out]; rfl))
            clear HNO HYS HOK
            go_wp2_with (go_at_call 16; refine (HNum.out _).mono ?_; rintro e w2 ⟨rfl, rfl⟩)
            go_ret
            exact ⟨(congrArg (fun b => Ending.returned (Value.bool b)) HGF.out).symm, HFF.out⟩
          | true =>
            cases q with
            | true =>
              have HYY := hid (HYS.out (by rw [HOK.out]; rfl))
              clear HNO HYS HOK
              go_wp2_with (go_at_call 16; refine (HNum.out _).mono ?_; rintro e w2 ⟨rfl, rfl⟩)
              exact ⟨⟨k + 1, by omega, by go_num, HYY.out, HFQ.out⟩, by simp only [intOf]; omega⟩
            | false =>
              by_cases hx0 : x = 0
              · have HYY := hid (HYS.out (by rw [HOK.out, decide_eq_true hx0]; rfl))
                have e1 : (x == 0) = true := beq_iff_eq.2 hx0
                have e2 : (x != 0) = false := by rw [bne, e1]; rfl
                clear HNO HYS HOK hx0
                go_wp2_with (go_at_call 16; refine (HNum.out _).mono ?_; rintro e w2 ⟨rfl, rfl⟩)
                exact ⟨⟨k + 1, by omega, by go_num, HYY.out, HFQ.out⟩, by simp only [intOf]; omega⟩
              · have HGF := hid (HNO.out (by rw [HOK.out, decide_eq_false hx0]; rfl))
                have e1 : (x == 0) = false := beq_eq_false_iff_ne.2 hx0
                have e2 : (x != 0) = true := by rw [bne, e1]; rfl
                clear HNO HYS HOK hx0
                go_wp2_with (go_at_call 16; refine (HNum.out _).mono ?_; rintro e w2 ⟨rfl, rfl⟩)
                go_ret
                exact ⟨(congrArg (fun b => Ending.returned (Value.bool b)) HGF.out).symm, HFF.out⟩
      · as_aux_lemma =>
        obtain rfl : k = 10 := by omega
        have hnum := (numsR_iff m).2 HAll.out
        have HNB : Hid (∀ i, i < 10 → Msg.num ((allN m).getD i 0) = true) := hid (fun i hi => by have := HAll.out i hi; unfold okN at this; rw [Bool.and_eq_true] at this; exact this.1)
        rw [hnum, Bool.true_and] at HG
        clear hnum HAll HN hfr
        rw [show ((10 : Nat) : Int) = 10 from rfl]
        go_upto_region 12 with fail
        go_cut [1, 123] from 97 to 122 (fun _ t wq => t = .bool (!knownR m r) ∧ Frm No W2 wq)
        case first =>
          as_aux_lemma =>
          have HK : Hid (knownR m r = !(decide (m.kind = 1) && decide (0 < m.known.length) || decide (1 < m.kind) && (decide ((m.known.length : Int) ≠ r) || decide (r ≤ m.from_)))) := hid rfl
          clear HG HHas HM2 HR2 HSm
          generalize m.known.length = kl at *
          obtain ⟨b_k1, hb_k1⟩ : ∃ b, (decide (m.kind = 1)) = b := ⟨_, rfl⟩
          rw [hb_k1] at HK
          have HB_k1 := hid hb_k1
          clear hb_k1
          obtain ⟨b_kn, hb_kn⟩ : ∃ b, (decide (0 < kl)) = b := ⟨_, rfl⟩
          rw [hb_kn] at HK
          have HB_kn := hid hb_kn
          clear hb_kn
          obtain ⟨b_kg, hb_kg⟩ : ∃ b, (decide (1 < m.kind)) = b := ⟨_, rfl⟩
          rw [hb_kg] at HK
          have HB_kg := hid hb_kg
          clear hb_kg
          obtain ⟨b_kl, hb_kl⟩ : ∃ b, (decide ((kl : Int) ≠ r)) = b := ⟨_, rfl⟩
          rw [hb_kl] at HK
          have HB_kl := hid hb_kl
          clear hb_kl
          obtain ⟨b_kf, hb_kf⟩ : ∃ b, (decide (r ≤ m.from_)) = b := ⟨_, rfl⟩
          rw [hb_kf] at HK
          have HB_kf := hid hb_kf
          clear hb_kf
          cases b_k1 with
          | true =>
            have e_k1 : ((m.kind) == (1)) = true := beq_iff_eq.2 (_root_.of_decide_eq_true HB_k1.out)
            have e'_k1 : ((m.kind) != (1)) = false := by rw [bne, e_k1]; rfl
            cases b_kn with
            | true =>
              have e_kn : (0 : Int) < (kl : Int) := by have := (_root_.of_decide_eq_true HB_kn.out); omega
              go_wp2_with fail
              go_meet
              exact ⟨by rw [HK.out]; first | rfl | (simp [e_k1, e_kn]; done), HFR.out⟩
            | false =>
              have e_kn : ¬ ((0 : Int) < (kl : Int)) := by have := (_root_.of_decide_eq_false HB_kn.out); omega
              cases b_kg with
              | true =>
                have e_kg : (1 : Int) < m.kind := by have := (_root_.of_decide_eq_true HB_kg.out); omega
                cases b_kl with
                | true =>
                  have e_kl : (((kl : Int)) == (r)) = false := beq_eq_false_iff_ne.2 (_root_.of_decide_eq_true HB_kl.out)
                  have e'_kl : (((kl : Int)) != (r)) = true := by rw [bne, e_kl]; rfl
                  exfalso; have x1 := (_root_.of_decide_eq_true HB_k1.out); have x2 := (_root_.of_decide_eq_true HB_kg.out); omega
                | false =>
                  have e_kl : (((kl : Int)) == (r)) = true := beq_iff_eq.2 (Classical.not_not.1 (_root_.of_decide_eq_false HB_kl.out))
                  have e'_kl : (((kl : Int)) != (r)) = false := by rw [bne, e_kl]; rfl
                  cases b_kf with
                  | true =>
                    have e_kf : r ≤ m.from_ := by have := (_root_.of_decide_eq_true HB_kf.out); omega
                    exfalso; have x1 := (_root_.of_decide_eq_true HB_k1.out); have x2 := (_root_.of_decide_eq_true HB_kg.out); omega
                  | false =>
                    have e_kf : ¬ (r ≤ m.from_) := by have := (_root_.of_decide_eq_false HB_kf.out); omega
                    exfalso; have x1 := (_root_.of_decide_eq_true HB_k1.out); have x2 := (_root_.of_decide_eq_true HB_kg.out); omega
              | false =>
                have e_kg : ¬ ((1 : Int) < m.kind) := by have := (_root_.of_decide_eq_false HB_kg.out); omega
                go_wp2_with fail
                go_meet
                exact ⟨by rw [HK.out]; first | rfl | (simp [e_k1, e_kn, e_kg]; done), HFR.out⟩
          | false =>
            have e_k1 : ((m.kind) == (1)) = false := beq_eq_false_iff_ne.2 (_root_.of_decide_eq_false HB_k1.out)
            have e'_k1 : ((m.kind) != (1)) = true := by rw [bne, e_k1]; rfl
            cases b_kg with
            | true =>
              have e_kg : (1 : Int) < m.kind := by have := (_root_.of_decide_eq_true HB_kg.out); omega
              cases b_kl with
              | true =>
                have e_kl : (((kl : Int)) == (r)) = false := beq_eq_false_iff_ne.2 (_root_.of_decide_eq_true HB_kl.out)
                have e'_kl : (((kl : Int)) != (r)) = true := by rw [bne, e_kl]; rfl
                go_wp2_with fail
                go_meet
                exact ⟨by rw [HK.out]; first | rfl | (simp [e_k1, e_kg, e_kl]; done), HFR.out⟩
              | false =>
                have e_kl : (((kl : Int)) == (r)) = true := beq_iff_eq.2 (Classical.not_not.1 (_root_.of_decide_eq_false HB_kl.out))
                have e'_kl : (((kl : Int)) != (r)) = false := by rw [bne, e_kl]; rfl
                cases b_kf with
                | true =>
                  have e_kf : r ≤ m.from_ := by have := (_root_.of_decide_eq_true HB_kf.out); omega
                  go_wp2_with fail
                  go_meet
                  exact ⟨by rw [HK.out]; first | rfl | (simp [e_k1, e_kg, e_kl, e_kf]; done), HFR.out⟩
                | false =>
                  have e_kf : ¬ (r ≤ m.from_) := by have := (_root_.of_decide_eq_false HB_kf.out); omega
                  go_wp2_with fail
                  go_meet
                  exact ⟨by rw [HK.out]; first | rfl | (simp [e_k1, e_kg, e_kl, e_kf]; done), HFR.out⟩
            | false =>
              have e_kg : ¬ ((1 : Int) < m.kind) := by have := (_root_.of_decide_eq_false HB_kg.out); omega
              go_wp2_with fail
              go_meet
              exact ⟨by rw [HK.out]; first | rfl | (simp [e_k1, e_kg]; done), HFR.out⟩
        case rest =>
          as_aux_lemma =>
          obtain ⟨rfl, hfq⟩ := hcut
          cases hB : knownR m r
          · as_aux_lemma =>
            have hG : goodR m r = false := by rw [HG.out, hB]; rfl
            have hF := HFW.out.thenNo hfq
            rw [Bool.not_false]
            clear HG hB HHas
            go_wp2_with fail
            go_ret
            exact ⟨(congrArg (fun b => Ending.returned (Value.bool b)) hG).symm, hF⟩
          rw [Bool.not_true]
          rw [hB, Bool.true_and] at HG
          have HFQ := hid hfq
          have kM := HR2.out _ hfq
          clear hB hfq HFR
          go_upto_region 14 with fail
          go_wp2_with fail
          go_loopw [10] (fun i wr => ∃ k : Nat, k ≤ m.known.length ∧ i = .int .i64 (k : Int) ∧ (m.known.take k).all Msg.num = true ∧ Frm No W2 wr)
            (fun i _ => m.known.length - (intOf i).toNat)
          case atStart => exact ⟨0, by omega, rfl, rfl, HFQ.out⟩
          case round =>
            obtain ⟨k, hk, rfl, hall, hfr⟩ := hrel
            have HAll := hid hall
            have HFR := hid hfr
            have hrd := (HM2.out _ hfr).kr
            clear HFQ
            have kM := HR2.out _ hfr
            clear hfr hall
            by_cases hkl : k < m.known.length
            · as_aux_lemma =>
              have hkz : (k : Int) < (m.known.length : Int) := by omega
              obtain ⟨b, o, rfl, hc⟩ := hrd.at_ (by omega)
              have hck := hc k (by omega)
              have hcell : wr.cell? ⟨b, o + k, none⟩ = some (.int .i64 m.known[k]) := by rw [hck]; simp [intsV]
              have HT := hid (all_take m.known k hkl HAll.out)
              obtain ⟨x, hx⟩ : ∃ x, m.known[k] = x := ⟨_, rfl⟩
              rw [hx] at hcell HT
              have HNum := hid (fun w1 => rmnumber_any x w1)
              have HFF := hid (HFW.out.thenNo HFR.out)
              clear hck hc hx HHas HM2 HSm HR2 HFW HAll hrd
              cases hn : Msg.num x
              · rw [hn] at HNum HT
                have hG : goodR m r = false := by rw [HG.out, all_no m.known (k + 1) HT.out]; rfl
                have HGF := hid hG
                clear hG HG hn
                go_wp2_with (go_at_call 16; refine (HNum.out _).mono ?_; rintro e w2 ⟨rfl, rfl⟩)
                go_ret
                exact ⟨(congrArg (fun b => Ending.returned (Value.bool b)) HGF.out).symm, HFF.out⟩
              · rw [hn] at HNum HT
                clear hn HG
                go_wp2_with (go_at_call 16; refine (HNum.out _).mono ?_; rintro e w2 ⟨rfl, rfl⟩)
                exact ⟨⟨k + 1, by omega, by go_num, HT.out, HFR.out⟩, by simp [intOf]; omega⟩
            · as_aux_lemma =>
              obtain rfl : k = m.known.length := by omega
              have hall := HAll.out
              rw [List.take_length] at hall
              rw [hall, Bool.true_and] at HG
              clear hall HAll hrd
              go_upto_region 19 with fail
              go_cut [182] from 138 to 181 (fun t wq => t = .bool (!lensR m) ∧ Frm No W2 wq)
              case first =>
                as_aux_lemma =>
                have HK : Hid (lensR m = !((decide (m.text ≠ []) && !decide ((116 : UInt8) ∈ F)) || decide (8192 < m.text.length) || (m.full && decide (m.kind ≠ 10)) || (decide (m.state ≠ []) && !decide ((84 : UInt8) ∈ F)) || decide (65536 < m.state.length) || decide (64 < m.entries.length))) := hid (by rw [← HFE.out]; rfl)
                have H1 : Hid (∀ w1, Calls Tryd.prog 15 #[.string ⟨F.toArray⟩, .int .u8 116] w1 fun e w' => e = .returned (.bool (decide ((116 : UInt8) ∈ F))) ∧ w1 = w') := hid (fun w1 => HHas.out 116 w1)
                have H2 : Hid (∀ w1, Calls Tryd.prog 15 #[.string ⟨F.toArray⟩, .int .u8 84] w1 fun e w' => e = .returned (.bool (decide ((84 : UInt8) ∈ F))) ∧ w1 = w') := hid (fun w1 => HHas.out 84 w1)
                clear HG HHas HM2 HR2 HSm HFW
                generalize decide ((116 : UInt8) ∈ F) = b_q1 at *
                generalize decide ((84 : UInt8) ∈ F) = b_q2 at *
                obtain ⟨b_t0, hb_t0⟩ : ∃ b, (decide (m.text ≠ [])) = b := ⟨_, rfl⟩
                rw [hb_t0] at HK
                have HB_t0 := hid hb_t0
                clear hb_t0
                obtain ⟨b_t1, hb_t1⟩ : ∃ b, (decide (8192 < m.text.length)) = b := ⟨_, rfl⟩
                rw [hb_t1] at HK
                have HB_t1 := hid hb_t1
                clear hb_t1
                obtain ⟨b_fu, hb_fu⟩ : ∃ b, (m.full) = b := ⟨_, rfl⟩
                rw [hb_fu] at HK
                have HB_fu := hid hb_fu
                clear hb_fu
                obtain ⟨b_k10, hb_k10⟩ : ∃ b, (decide (m.kind ≠ 10)) = b := ⟨_, rfl⟩
                rw [hb_k10] at HK
                have HB_k10 := hid hb_k10
                clear hb_k10
                obtain ⟨b_s0, hb_s0⟩ : ∃ b, (decide (m.state ≠ [])) = b := ⟨_, rfl⟩
                rw [hb_s0] at HK
                have HB_s0 := hid hb_s0
                clear hb_s0
                obtain ⟨b_s1, hb_s1⟩ : ∃ b, (decide (65536 < m.state.length)) = b := ⟨_, rfl⟩
                rw [hb_s1] at HK
                have HB_s1 := hid hb_s1
                clear hb_s1
                obtain ⟨b_e1, hb_e1⟩ : ∃ b, (decide (64 < m.entries.length)) = b := ⟨_, rfl⟩
                rw [hb_e1] at HK
                have HB_e1 := hid hb_e1
                clear hb_e1
                cases b_t0 with
                | true =>
                  have e_t0 : (m.text == []) = false := beq_eq_false_iff_ne.2 (_root_.of_decide_eq_true HB_t0.out)
                  have e'_t0 : (m.text != []) = true := by rw [bne, e_t0]; rfl
                  cases b_q1 with
                  | true =>
                    cases b_t1 with
                    | true =>
                      have e_t1 : (8192 : Int) < (m.text.length : Int) := by have := (_root_.of_decide_eq_true HB_t1.out); omega
                      go_wp2_with (go_at_call 15; first | (with_reducible refine (H1.out _).mono ?_; rintro e w2 ⟨rfl, rfl⟩) | (with_reducible refine (H2.out _).mono ?_; rintro e w2 ⟨rfl, rfl⟩))
                      go_meet
                      exact ⟨by rw [HK.out]; first | rfl | (simp [e_t0, e_t1]; done), HFR.out⟩
                    | false =>
                      have e_t1 : ¬ ((8192 : Int) < (m.text.length : Int)) := by have := (_root_.of_decide_eq_false HB_t1.out); omega
                      cases b_fu with
                      | true =>
                        have e_fu := HB_fu.out
                        cases b_k10 with
                        | true =>
                          have e_k10 : ((m.kind) == (10)) = false := beq_eq_false_iff_ne.2 (_root_.of_decide_eq_true HB_k10.out)
                          have e'_k10 : ((m.kind) != (10)) = true := by rw [bne, e_k10]; rfl
                          go_wp2_with (go_at_call 15; first | (with_reducible refine (H1.out _).mono ?_; rintro e w2 ⟨rfl, rfl⟩) | (with_reducible refine (H2.out _).mono ?_; rintro e w2 ⟨rfl, rfl⟩))
                          go_meet
                          exact ⟨by rw [HK.out]; first | rfl | (simp [e_t0, e_t1, e_fu, e_k10]; done), HFR.out⟩
                        | false =>
                          have e_k10 : ((m.kind) == (10)) = true := beq_iff_eq.2 (Classical.not_not.1 (_root_.of_decide_eq_false HB_k10.out))
                          have e'_k10 : ((m.kind) != (10)) = false := by rw [bne, e_k10]; rfl
                          cases b_s0 with
                          | true =>
                            have e_s0 : (m.state == []) = false := beq_eq_false_iff_ne.2 (_root_.of_decide_eq_true HB_s0.out)
                            have e'_s0 : (m.state != []) = true := by rw [bne, e_s0]; rfl
                            cases b_q2 with
                            | true =>
                              cases b_s1 with
                              | true =>
                                have e_s1 : (65536 : Int) < (m.state.length : Int) := by have := (_root_.of_decide_eq_true HB_s1.out); omega
                                go_wp2_with (go_at_call 15; first | (with_reducible refine (H1.out _).mono ?_; rintro e w2 ⟨rfl, rfl⟩) | (with_reducible refine (H2.out _).mono ?_; rintro e w2 ⟨rfl, rfl⟩))
                                go_meet
                                exact ⟨by rw [HK.out]; first | rfl | (simp [e_t0, e_t1, e_fu, e_k10, e_s0, e_s1]; done), HFR.out⟩
                              | false =>
                                have e_s1 : ¬ ((65536 : Int) < (m.state.length : Int)) := by have := (_root_.of_decide_eq_false HB_s1.out); omega
                                cases b_e1 with
                                | true =>
                                  have e_e1 : (64 : Int) < (m.entries.length : Int) := by have := (_root_.of_decide_eq_true HB_e1.out); omega
                                  go_wp2_with (go_at_call 15; first | (with_reducible refine (H1.out _).mono ?_; rintro e w2 ⟨rfl, rfl⟩) | (with_reducible refine (H2.out _).mono ?_; rintro e w2 ⟨rfl, rfl⟩))
                                  go_meet
                                  exact ⟨by rw [HK.out]; first | rfl | (simp [e_t0, e_t1, e_fu, e_k10, e_s0, e_s1, e_e1]; done), HFR.out⟩
                                | false =>
                                  have e_e1 : ¬ ((64 : Int) < (m.entries.length : Int)) := by have := (_root_.of_decide_eq_false HB_e1.out); omega
                                  go_wp2_with (go_at_call 15; first | (with_reducible refine (H1.out _).mono ?_; rintro e w2 ⟨rfl, rfl⟩) | (with_reducible refine (H2.out _).mono ?_; rintro e w2 ⟨rfl, rfl⟩))
                                  go_meet
                                  exact ⟨by rw [HK.out]; first | rfl | (simp [e_t1, e_s1, e_e1]; done), HFR.out⟩
                            | false =>
                              go_wp2_with (go_at_call 15; first | (with_reducible refine (H1.out _).mono ?_; rintro e w2 ⟨rfl, rfl⟩) | (with_reducible refine (H2.out _).mono ?_; rintro e w2 ⟨rfl, rfl⟩))
                              go_meet
                              exact ⟨by rw [HK.out]; first | rfl | (simp [e_t0, e_t1, e_fu, e_k10, e_s0]; done), HFR.out⟩
                          | false =>
                            have e_s0 : (m.state == []) = true := beq_iff_eq.2 (Classical.not_not.1 (_root_.of_decide_eq_false HB_s0.out))
                            have e'_s0 : (m.state != []) = false := by rw [bne, e_s0]; rfl
                            cases b_s1 with
                            | true =>
                              have e_s1 : (65536 : Int) < (m.state.length : Int) := by have := (_root_.of_decide_eq_true HB_s1.out); omega
                              go_wp2_with (go_at_call 15; first | (with_reducible refine (H1.out _).mono ?_; rintro e w2 ⟨rfl, rfl⟩) | (with_reducible refine (H2.out _).mono ?_; rintro e w2 ⟨rfl, rfl⟩))
                              go_meet
                              exact ⟨by rw [HK.out]; first | rfl | (simp [e_t0, e_t1, e_fu, e_k10, e_s0, e_s1]; done), HFR.out⟩
                            | false =>
                              have e_s1 : ¬ ((65536 : Int) < (m.state.length : Int)) := by have := (_root_.of_decide_eq_false HB_s1.out); omega
                              cases b_e1 with
                              | true =>
                                have e_e1 : (64 : Int) < (m.entries.length : Int) := by have := (_root_.of_decide_eq_true HB_e1.out); omega
                                go_wp2_with (go_at_call 15; first | (with_reducible refine (H1.out _).mono ?_; rintro e w2 ⟨rfl, rfl⟩) | (with_reducible refine (H2.out _).mono ?_; rintro e w2 ⟨rfl, rfl⟩))
                                go_meet
                                exact ⟨by rw [HK.out]; first | rfl | (simp [e_t0, e_t1, e_fu, e_k10, e_s0, e_s1, e_e1]; done), HFR.out⟩
                              | false =>
                                have e_e1 : ¬ ((64 : Int) < (m.entries.length : Int)) := by have := (_root_.of_decide_eq_false HB_e1.out); omega
                                go_wp2_with (go_at_call 15; first | (with_reducible refine (H1.out _).mono ?_; rintro e w2 ⟨rfl, rfl⟩) | (with_reducible refine (H2.out _).mono ?_; rintro e w2 ⟨rfl, rfl⟩))
                                go_meet
                                exact ⟨by rw [HK.out]; first | rfl | (simp [e_t1, e_s1, e_e1]; done), HFR.out⟩
                      | false =>
                        have e_fu := HB_fu.out
                        cases b_s0 with
                        | true =>
                          have e_s0 : (m.state == []) = false := beq_eq_false_iff_ne.2 (_root_.of_decide_eq_true HB_s0.out)
                          have e'_s0 : (m.state != []) = true := by rw [bne, e_s0]; rfl
                          cases b_q2 with
                          | true =>
                            cases b_s1 with
                            | true =>
                              have e_s1 : (65536 : Int) < (m.state.length : Int) := by have := (_root_.of_decide_eq_true HB_s1.out); omega
                              go_wp2_with (go_at_call 15; first | (with_reducible refine (H1.out _).mono ?_; rintro e w2 ⟨rfl, rfl⟩) | (with_reducible refine (H2.out _).mono ?_; rintro e w2 ⟨rfl, rfl⟩))
                              go_meet
                              exact ⟨by rw [HK.out]; first | rfl | (simp [e_t0, e_t1, e_fu, e_s0, e_s1]; done), HFR.out⟩
                            | false =>
                              have e_s1 : ¬ ((65536 : Int) < (m.state.length : Int)) := by have := (_root_.of_decide_eq_false HB_s1.out); omega
                              cases b_e1 with
                              | true =>
                                have e_e1 : (64 : Int) < (m.entries.length : Int) := by have := (_root_.of_decide_eq_true HB_e1.out); omega
                                go_wp2_with (go_at_call 15; first | (with_reducible refine (H1.out _).mono ?_; rintro e w2 ⟨rfl, rfl⟩) | (with_reducible refine (H2.out _).mono ?_; rintro e w2 ⟨rfl, rfl⟩))
                                go_meet
                                exact ⟨by rw [HK.out]; first | rfl | (simp [e_t0, e_t1, e_fu, e_s0, e_s1, e_e1]; done), HFR.out⟩
                              | false =>
                                have e_e1 : ¬ ((64 : Int) < (m.entries.length : Int)) := by have := (_root_.of_decide_eq_false HB_e1.out); omega
                                go_wp2_with (go_at_call 15; first | (with_reducible refine (H1.out _).mono ?_; rintro e w2 ⟨rfl, rfl⟩) | (with_reducible refine (H2.out _).mono ?_; rintro e w2 ⟨rfl, rfl⟩))
                                go_meet
                                exact ⟨by rw [HK.out]; first | rfl | (simp [e_t1, e_s1, e_e1]; done), HFR.out⟩
                          | false =>
                            go_wp2_with (go_at_call 15; first | (with_reducible refine (H1.out _).mono ?_; rintro e w2 ⟨rfl, rfl⟩) | (with_reducible refine (H2.out _).mono ?_; rintro e w2 ⟨rfl, rfl⟩))
                            go_meet
                            exact ⟨by rw [HK.out]; first | rfl | (simp [e_t0, e_t1, e_fu, e_s0]; done), HFR.out⟩
                        | false =>
                          have e_s0 : (m.state == []) = true := beq_iff_eq.2 (Classical.not_not.1 (_root_.of_decide_eq_false HB_s0.out))
                          have e'_s0 : (m.state != []) = false := by rw [bne, e_s0]; rfl
                          cases b_s1 with
                          | true =>
                            have e_s1 : (65536 : Int) < (m.state.length : Int) := by have := (_root_.of_decide_eq_true HB_s1.out); omega
                            go_wp2_with (go_at_call 15; first | (with_reducible refine (H1.out _).mono ?_; rintro e w2 ⟨rfl, rfl⟩) | (with_reducible refine (H2.out _).mono ?_; rintro e w2 ⟨rfl, rfl⟩))
                            go_meet
                            exact ⟨by rw [HK.out]; first | rfl | (simp [e_t0, e_t1, e_fu, e_s0, e_s1]; done), HFR.out⟩
                          | false =>
                            have e_s1 : ¬ ((65536 : Int) < (m.state.length : Int)) := by have := (_root_.of_decide_eq_false HB_s1.out); omega
                            cases b_e1 with
                            | true =>
                              have e_e1 : (64 : Int) < (m.entries.length : Int) := by have := (_root_.of_decide_eq_true HB_e1.out); omega
                              go_wp2_with (go_at_call 15; first | (with_reducible refine (H1.out _).mono ?_; rintro e w2 ⟨rfl, rfl⟩) | (with_reducible refine (H2.out _).mono ?_; rintro e w2 ⟨rfl, rfl⟩))
                              go_meet
                              exact ⟨by rw [HK.out]; first | rfl | (simp [e_t0, e_t1, e_fu, e_s0, e_s1, e_e1]; done), HFR.out⟩
                            | false =>
                              have e_e1 : ¬ ((64 : Int) < (m.entries.length : Int)) := by have := (_root_.of_decide_eq_false HB_e1.out); omega
                              go_wp2_with (go_at_call 15; first | (with_reducible refine (H1.out _).mono ?_; rintro e w2 ⟨rfl, rfl⟩) | (with_reducible refine (H2.out _).mono ?_; rintro e w2 ⟨rfl, rfl⟩))
                              go_meet
                              exact ⟨by rw [HK.out]; first | rfl | (simp [e_t1, e_s1, e_e1]; done), HFR.out⟩
                  | false =>
                    go_wp2_with (go_at_call 15; first | (with_reducible refine (H1.out _).mono ?_; rintro e w2 ⟨rfl, rfl⟩) | (with_reducible refine (H2.out _).mono ?_; rintro e w2 ⟨rfl, rfl⟩))
                    go_meet
                    exact ⟨by rw [HK.out]; first | rfl | (simp [e_t0]; done), HFR.out⟩
                | false =>
                  have e_t0 : (m.text == []) = true := beq_iff_eq.2 (Classical.not_not.1 (_root_.of_decide_eq_false HB_t0.out))
                  have e'_t0 : (m.text != []) = false := by rw [bne, e_t0]; rfl
                  cases b_t1 with
                  | true =>
                    have e_t1 : (8192 : Int) < (m.text.length : Int) := by have := (_root_.of_decide_eq_true HB_t1.out); omega
                    go_wp2_with (go_at_call 15; first | (with_reducible refine (H1.out _).mono ?_; rintro e w2 ⟨rfl, rfl⟩) | (with_reducible refine (H2.out _).mono ?_; rintro e w2 ⟨rfl, rfl⟩))
                    go_meet
                    exact ⟨by rw [HK.out]; first | rfl | (simp [e_t0, e_t1]; done), HFR.out⟩
                  | false =>
                    have e_t1 : ¬ ((8192 : Int) < (m.text.length : Int)) := by have := (_root_.of_decide_eq_false HB_t1.out); omega
                    cases b_fu with
                    | true =>
                      have e_fu := HB_fu.out
                      cases b_k10 with
                      | true =>
                        have e_k10 : ((m.kind) == (10)) = false := beq_eq_false_iff_ne.2 (_root_.of_decide_eq_true HB_k10.out)
                        have e'_k10 : ((m.kind) != (10)) = true := by rw [bne, e_k10]; rfl
                        go_wp2_with (go_at_call 15; first | (with_reducible refine (H1.out _).mono ?_; rintro e w2 ⟨rfl, rfl⟩) | (with_reducible refine (H2.out _).mono ?_; rintro e w2 ⟨rfl, rfl⟩))
                        go_meet
                        exact ⟨by rw [HK.out]; first | rfl | (simp [e_t0, e_t1, e_fu, e_k10]; done), HFR.out⟩
                      | false =>
                        have e_k10 : ((m.kind) == (10)) = true := beq_iff_eq.2 (Classical.not_not.1 (_root_.of_decide_eq_false HB_k10.out))
                        have e'_k10 : ((m.kind) != (10)) = false := by rw [bne, e_k10]; rfl
                        cases b_s0 with
                        | true =>
                          have e_s0 : (m.state == []) = false := beq_eq_false_iff_ne.2 (_root_.of_decide_eq_true HB_s0.out)
                          have e'_s0 : (m.state != []) = true := by rw [bne, e_s0]; rfl
                          cases b_q2 with
                          | true =>
                            cases b_s1 with
                            | true =>
                              have e_s1 : (65536 : Int) < (m.state.length : Int) := by have := (_root_.of_decide_eq_true HB_s1.out); omega
                              go_wp2_with (go_at_call 15; first | (with_reducible refine (H1.out _).mono ?_; rintro e w2 ⟨rfl, rfl⟩) | (with_reducible refine (H2.out _).mono ?_; rintro e w2 ⟨rfl, rfl⟩))
                              go_meet
                              exact ⟨by rw [HK.out]; first | rfl | (simp [e_t0, e_t1, e_fu, e_k10, e_s0, e_s1]; done), HFR.out⟩
                            | false =>
                              have e_s1 : ¬ ((65536 : Int) < (m.state.length : Int)) := by have := (_root_.of_decide_eq_false HB_s1.out); omega
                              cases b_e1 with
                              | true =>
                                have e_e1 : (64 : Int) < (m.entries.length : Int) := by have := (_root_.of_decide_eq_true HB_e1.out); omega
                                go_wp2_with (go_at_call 15; first | (with_reducible refine (H1.out _).mono ?_; rintro e w2 ⟨rfl, rfl⟩) | (with_reducible refine (H2.out _).mono ?_; rintro e w2 ⟨rfl, rfl⟩))
                                go_meet
                                exact ⟨by rw [HK.out]; first | rfl | (simp [e_t0, e_t1, e_fu, e_k10, e_s0, e_s1, e_e1]; done), HFR.out⟩
                              | false =>
                                have e_e1 : ¬ ((64 : Int) < (m.entries.length : Int)) := by have := (_root_.of_decide_eq_false HB_e1.out); omega
                                go_wp2_with (go_at_call 15; first | (with_reducible refine (H1.out _).mono ?_; rintro e w2 ⟨rfl, rfl⟩) | (with_reducible refine (H2.out _).mono ?_; rintro e w2 ⟨rfl, rfl⟩))
                                go_meet
                                exact ⟨by rw [HK.out]; first | rfl | (simp [e_s1, e_e1]; done), HFR.out⟩
                          | false =>
                            go_wp2_with (go_at_call 15; first | (with_reducible refine (H1.out _).mono ?_; rintro e w2 ⟨rfl, rfl⟩) | (with_reducible refine (H2.out _).mono ?_; rintro e w2 ⟨rfl, rfl⟩))
                            go_meet
                            exact ⟨by rw [HK.out]; first | rfl | (simp [e_t0, e_t1, e_fu, e_k10, e_s0]; done), HFR.out⟩
                        | false =>
                          have e_s0 : (m.state == []) = true := beq_iff_eq.2 (Classical.not_not.1 (_root_.of_decide_eq_false HB_s0.out))
                          have e'_s0 : (m.state != []) = false := by rw [bne, e_s0]; rfl
                          cases b_s1 with
                          | true =>
                            have e_s1 : (65536 : Int) < (m.state.length : Int) := by have := (_root_.of_decide_eq_true HB_s1.out); omega
                            go_wp2_with (go_at_call 15; first | (with_reducible refine (H1.out _).mono ?_; rintro e w2 ⟨rfl, rfl⟩) | (with_reducible refine (H2.out _).mono ?_; rintro e w2 ⟨rfl, rfl⟩))
                            go_meet
                            exact ⟨by rw [HK.out]; first | rfl | (simp [e_t0, e_t1, e_fu, e_k10, e_s0, e_s1]; done), HFR.out⟩
                          | false =>
                            have e_s1 : ¬ ((65536 : Int) < (m.state.length : Int)) := by have := (_root_.of_decide_eq_false HB_s1.out); omega
                            cases b_e1 with
                            | true =>
                              have e_e1 : (64 : Int) < (m.entries.length : Int) := by have := (_root_.of_decide_eq_true HB_e1.out); omega
                              go_wp2_with (go_at_call 15; first | (with_reducible refine (H1.out _).mono ?_; rintro e w2 ⟨rfl, rfl⟩) | (with_reducible refine (H2.out _).mono ?_; rintro e w2 ⟨rfl, rfl⟩))
                              go_meet
                              exact ⟨by rw [HK.out]; first | rfl | (simp [e_t0, e_t1, e_fu, e_k10, e_s0, e_s1, e_e1]; done), HFR.out⟩
                            | false =>
                              have e_e1 : ¬ ((64 : Int) < (m.entries.length : Int)) := by have := (_root_.of_decide_eq_false HB_e1.out); omega
                              go_wp2_with (go_at_call 15; first | (with_reducible refine (H1.out _).mono ?_; rintro e w2 ⟨rfl, rfl⟩) | (with_reducible refine (H2.out _).mono ?_; rintro e w2 ⟨rfl, rfl⟩))
                              go_meet
                              exact ⟨by rw [HK.out]; first | rfl | (simp [e_t0, e_t1, e_fu, e_k10, e_s0, e_s1, e_e1]; done), HFR.out⟩
                    | false =>
                      have e_fu := HB_fu.out
                      cases b_s0 with
                      | true =>
                        have e_s0 : (m.state == []) = false := beq_eq_false_iff_ne.2 (_root_.of_decide_eq_true HB_s0.out)
                        have e'_s0 : (m.state != []) = true := by rw [bne, e_s0]; rfl
                        cases b_q2 with
                        | true =>
                          cases b_s1 with
                          | true =>
                            have e_s1 : (65536 : Int) < (m.state.length : Int) := by have := (_root_.of_decide_eq_true HB_s1.out); omega
                            go_wp2_with (go_at_call 15; first | (with_reducible refine (H1.out _).mono ?_; rintro e w2 ⟨rfl, rfl⟩) | (with_reducible refine (H2.out _).mono ?_; rintro e w2 ⟨rfl, rfl⟩))
                            go_meet
                            exact ⟨by rw [HK.out]; first | rfl | (simp [e_t0, e_t1, e_fu, e_s0, e_s1]; done), HFR.out⟩
                          | false =>
                            have e_s1 : ¬ ((65536 : Int) < (m.state.length : Int)) := by have := (_root_.of_decide_eq_false HB_s1.out); omega
                            cases b_e1 with
                            | true =>
                              have e_e1 : (64 : Int) < (m.entries.length : Int) := by have := (_root_.of_decide_eq_true HB_e1.out); omega
                              go_wp2_with (go_at_call 15; first | (with_reducible refine (H1.out _).mono ?_; rintro e w2 ⟨rfl, rfl⟩) | (with_reducible refine (H2.out _).mono ?_; rintro e w2 ⟨rfl, rfl⟩))
                              go_meet
                              exact ⟨by rw [HK.out]; first | rfl | (simp [e_t0, e_t1, e_fu, e_s0, e_s1, e_e1]; done), HFR.out⟩
                            | false =>
                              have e_e1 : ¬ ((64 : Int) < (m.entries.length : Int)) := by have := (_root_.of_decide_eq_false HB_e1.out); omega
                              go_wp2_with (go_at_call 15; first | (with_reducible refine (H1.out _).mono ?_; rintro e w2 ⟨rfl, rfl⟩) | (with_reducible refine (H2.out _).mono ?_; rintro e w2 ⟨rfl, rfl⟩))
                              go_meet
                              exact ⟨by rw [HK.out]; first | rfl | (simp [e_s1, e_e1]; done), HFR.out⟩
                        | false =>
                          go_wp2_with (go_at_call 15; first | (with_reducible refine (H1.out _).mono ?_; rintro e w2 ⟨rfl, rfl⟩) | (with_reducible refine (H2.out _).mono ?_; rintro e w2 ⟨rfl, rfl⟩))
                          go_meet
                          exact ⟨by rw [HK.out]; first | rfl | (simp [e_t0, e_t1, e_fu, e_s0]; done), HFR.out⟩
                      | false =>
                        have e_s0 : (m.state == []) = true := beq_iff_eq.2 (Classical.not_not.1 (_root_.of_decide_eq_false HB_s0.out))
                        have e'_s0 : (m.state != []) = false := by rw [bne, e_s0]; rfl
                        cases b_s1 with
                        | true =>
                          have e_s1 : (65536 : Int) < (m.state.length : Int) := by have := (_root_.of_decide_eq_true HB_s1.out); omega
                          go_wp2_with (go_at_call 15; first | (with_reducible refine (H1.out _).mono ?_; rintro e w2 ⟨rfl, rfl⟩) | (with_reducible refine (H2.out _).mono ?_; rintro e w2 ⟨rfl, rfl⟩))
                          go_meet
                          exact ⟨by rw [HK.out]; first | rfl | (simp [e_t0, e_t1, e_fu, e_s0, e_s1]; done), HFR.out⟩
                        | false =>
                          have e_s1 : ¬ ((65536 : Int) < (m.state.length : Int)) := by have := (_root_.of_decide_eq_false HB_s1.out); omega
                          cases b_e1 with
                          | true =>
                            have e_e1 : (64 : Int) < (m.entries.length : Int) := by have := (_root_.of_decide_eq_true HB_e1.out); omega
                            go_wp2_with (go_at_call 15; first | (with_reducible refine (H1.out _).mono ?_; rintro e w2 ⟨rfl, rfl⟩) | (with_reducible refine (H2.out _).mono ?_; rintro e w2 ⟨rfl, rfl⟩))
                            go_meet
                            exact ⟨by rw [HK.out]; first | rfl | (simp [e_t0, e_t1, e_fu, e_s0, e_s1, e_e1]; done), HFR.out⟩
                          | false =>
                            have e_e1 : ¬ ((64 : Int) < (m.entries.length : Int)) := by have := (_root_.of_decide_eq_false HB_e1.out); omega
                            go_wp2_with (go_at_call 15; first | (with_reducible refine (H1.out _).mono ?_; rintro e w2 ⟨rfl, rfl⟩) | (with_reducible refine (H2.out _).mono ?_; rintro e w2 ⟨rfl, rfl⟩))
                            go_meet
                            exact ⟨by rw [HK.out]; first | rfl | (simp [e_t0, e_t1, e_fu, e_s0, e_s1, e_e1]; done), HFR.out⟩
              case rest =>
                as_aux_lemma =>
                obtain ⟨rfl, hfq⟩ := hcut
                cases hB : lensR m
                · as_aux_lemma =>
                  have hG : goodR m r = false := by rw [HG.out, hB]; rfl
                  have hF := HFW.out.thenNo hfq
                  rw [Bool.not_false]
                  clear HG hB HHas
                  go_wp2_with fail
                  go_ret
                  exact ⟨(congrArg (fun b => Ending.returned (Value.bool b)) hG).symm, hF⟩
                rw [Bool.not_true]
                rw [hB, Bool.true_and] at HG
                have HFQ := hid hfq
                have kM := HR2.out _ hfq
                clear hB hfq HFR
                go_upto_region 21 with fail
                go_wp2_with fail
                go_loopw [11, 12] (fun i _ wr => ∃ k : Nat, k ≤ m.entries.length ∧ i = .int .i64 (k : Int) ∧ (m.entries.take k).all entR = true ∧ Frm No W2 wr)
                  (fun i _ _ => m.entries.length - (intOf i).toNat)
                case atStart => exact ⟨0, by omega, rfl, rfl, HFQ.out⟩
                case round =>
                  obtain ⟨k, hk, rfl, hall, hfr⟩ := hrel
                  have HAll := hid hall
                  have HFR := hid hfr
                  have hrd := (HM2.out _ hfr).er
                  clear HFQ
                  have kM := HR2.out _ hfr
                  clear hfr hall
                  by_cases hkl : k < m.entries.length
                  · as_aux_lemma =>
                    have hkz : (k : Int) < (m.entries.length : Int) := by omega
                    obtain ⟨b, o, rfl, hc⟩ := hrd.at_ (by omega)
                    have q := hc k hkl
                    have HT := hid (entsR_take m.entries k hkl HAll.out)
                    have htx := HSm.out.texts m.entries[k] (List.getElem_mem hkl)
                    obtain ⟨x, hx⟩ : ∃ x, m.entries[k] = x := ⟨_, rfl⟩
                    rw [hx] at q HT htx
                    have r0 : wr.cell? ⟨b, o + k * 3, none⟩ = some (.int .i64 x.client) := q 0 (by omega)
                    have r1 : wr.cell? ⟨b, o + k * 3 + 1, none⟩ = some (.int .i64 x.number) := q 1 (by omega)
                    have r2 : wr.cell? ⟨b, o + k * 3 + 2, none⟩ = some (.string ⟨x.text.toArray⟩) := q 2 (by omega)
                    have HE : Hid (entR x = !(decide (x.client < 0) || decide (2 < x.client) || decide (x.number < 1) || !Msg.num x.number || decide (8192 < x.text.length))) := hid rfl
                    have HNum := hid (fun w1 => rmnumber_any x.number w1)
                    obtain ⟨xc, xn, xt⟩ := x
                    dsimp only at *
                    clear q hc hx HHas HM2 HSm HR2 HAll hrd
                    generalize Msg.num xn = nn at *
                    go_upto_region 25 with fail
                    go_cut [219] from 195 to 218 (fun t wq => t = .bool (!entR ⟨xc, xn, xt⟩) ∧ Frm No W2 wq)
                    case first =>
                      as_aux_lemma =>
                      clear HG HT HFW
                      go_wp2_with (go_at_call 16; refine (HNum.out _).mono ?_; rintro e w2 ⟨rfl, rfl⟩)
                      all_goals (first | (exfalso; omega) | skip)
                      all_goals
                        go_meet
                        exact ⟨by rw [HE.out]; first | rfl | (simp [*]; done) | (simp <;> omega) | (congr 1; rw [Bool.eq_iff_iff]; simp [*] <;> omega), HFR.out.alloc _⟩
                    case rest =>
                      as_aux_lemma =>
                      obtain ⟨rfl, hfq⟩ := hcut
                      clear r0 r1 r2 kM HNum HE
                      cases hn : entR ⟨xc, xn, xt⟩
                      · rw [hn] at HT
                        have hG : goodR m r = false := by rw [HG.out, entsR_no m.entries (k + 1) HT.out]; rfl
                        have hF := HFW.out.thenNo hfq
                        rw [Bool.not_false]
                        clear HG hn HT
                        go_wp2_with fail
                        go_ret
                        exact ⟨(congrArg (fun b => Ending.returned (Value.bool b)) hG).symm, hF⟩
                      · rw [hn] at HT
                        have HF := hid hfq
                        rw [Bool.not_true]
                        clear HG hn hfq
                        go_wp2_with fail
                        exact ⟨⟨k + 1, by omega, by go_num, HT.out, HF.out⟩, by simp [intOf]; omega⟩
                  · as_aux_lemma =>
                    obtain rfl : k = m.entries.length := by omega
                    have hall := HAll.out
                    rw [List.take_length] at hall
                    rw [hall, Bool.true_and] at HG
                    clear hall HAll hrd
                    have HFF := hid (HFW.out.thenNo HFR.out)
                    have HK : Hid (goodR m r = (if (decide ((105 : UInt8) ∈ F) && (decide (2 < m.client) || decide (m.number < 1))) = true then false
                      else if (decide ((120 : UInt8) ∈ F) && decide (m.nonce < 1)) = true then false
                      else if (decide ((99 : UInt8) ∈ F) && decide (m.op < m.commit)) = true then false
                      else if decide ((101 : UInt8) ∈ F) = true then decide (m.entries.length = 1) && decide (0 < m.op)
                      else if decide ((84 : UInt8) ∈ F) = false then decide (m.entries.length = 0)
                      else decide (m.last ≤ m.view) && decide (m.base ≤ m.commit) && decide ((m.entries.length : Int) = m.op - m.base) && (decide (0 < m.base) || decide (m.state = [])))) := hid (by rw [HG.out, ← HFE.out]; rfl)
                    have H_qi : Hid (∀ w1, Calls Tryd.prog 15 #[.string ⟨F.toArray⟩, .int .u8 105] w1 fun e w' => e = .returned (.bool (decide ((105 : UInt8) ∈ F))) ∧ w1 = w') := hid (fun w1 => HHas.out 105 w1)
                    have H_qx : Hid (∀ w1, Calls Tryd.prog 15 #[.string ⟨F.toArray⟩, .int .u8 120] w1 fun e w' => e = .returned (.bool (decide ((120 : UInt8) ∈ F))) ∧ w1 = w') := hid (fun w1 => HHas.out 120 w1)
                    have H_qc : Hid (∀ w1, Calls Tryd.prog 15 #[.string ⟨F.toArray⟩, .int .u8 99] w1 fun e w' => e = .returned (.bool (decide ((99 : UInt8) ∈ F))) ∧ w1 = w') := hid (fun w1 => HHas.out 99 w1)
                    have H_qe : Hid (∀ w1, Calls Tryd.prog 15 #[.string ⟨F.toArray⟩, .int .u8 101] w1 fun e w' => e = .returned (.bool (decide ((101 : UInt8) ∈ F))) ∧ w1 = w') := hid (fun w1 => HHas.out 101 w1)
                    have H_qT : Hid (∀ w1, Calls Tryd.prog 15 #[.string ⟨F.toArray⟩, .int .u8 84] w1 fun e w' => e = .returned (.bool (decide ((84 : UInt8) ∈ F))) ∧ w1 = w') := hid (fun w1 => HHas.out 84 w1)
                    obtain ⟨hop1, hop2⟩ := num_of (HNB.out 4 (by omega))
                    obtain ⟨hba1, hba2⟩ := num_of (HNB.out 9 (by omega))
                    have hop1' : 0 ≤ m.op := hop1
                    have hop2' : m.op ≤ 9007199254740992 := hop2
                    have hba1' : 0 ≤ m.base := hba1
                    have hba2' : m.base ≤ 9007199254740992 := hba2
                    clear hop1 hop2 hba1 hba2
                    clear HG HHas HM2 HR2 HSm HFW HFR HNB
                    generalize decide ((105 : UInt8) ∈ F) = b_qi at *
                    generalize decide ((120 : UInt8) ∈ F) = b_qx at *
                    generalize decide ((99 : UInt8) ∈ F) = b_qc at *
                    generalize decide ((101 : UInt8) ∈ F) = b_qe at *
                    generalize decide ((84 : UInt8) ∈ F) = b_qT at *
                    obtain ⟨B27, hB27⟩ : ∃ b, (b_qi && (decide (2 < m.client) || decide (m.number < 1))) = b := ⟨_, rfl⟩
                    obtain ⟨B29, hB29⟩ : ∃ b, (b_qx && decide (m.nonce < 1)) = b := ⟨_, rfl⟩
                    obtain ⟨B31, hB31⟩ : ∃ b, (b_qc && decide (m.op < m.commit)) = b := ⟨_, rfl⟩
                    rw [hB27, hB29, hB31] at HK
                    have H27 := hid hB27
                    have H29 := hid hB29
                    have H31 := hid hB31
                    clear hB27 hB29 hB31
                    go_upto_region 27 with fail
                    go_cut [231] from 220 to 230 (fun t wq => t = .bool B27 ∧ wq = wr)
                    case first =>
                      as_aux_lemma =>
                      clear HK
                      obtain ⟨b_c2, hb_c2⟩ : ∃ b, (decide (2 < m.client)) = b := ⟨_, rfl⟩
                      rw [hb_c2] at H27
                      have HB_c2 := hid hb_c2
                      clear hb_c2
                      obtain ⟨b_n1, hb_n1⟩ : ∃ b, (decide (m.number < 1)) = b := ⟨_, rfl⟩
                      rw [hb_n1] at H27
                      have HB_n1 := hid hb_n1
                      clear hb_n1
                      cases b_qi with
                      | true =>
                        cases b_c2 with
                        | true =>
                          have e_c2 : (2 : Int) < m.client := by have := (_root_.of_decide_eq_true HB_c2.out); omega
                          go_wp2_with (go_at_call 15; refine (H_qi.out _).mono ?_; rintro e w2 ⟨rfl, rfl⟩)
                          go_meet
                          exact ⟨by rw [← H27.out]; first | rfl | (simp [e_c2]; done), rfl⟩
                        | false =>
                          have e_c2 : ¬ ((2 : Int) < m.client) := by have := (_root_.of_decide_eq_false HB_c2.out); omega
                          cases b_n1 with
                          | true =>
                            have e_n1 : m.number < (1 : Int) := by have := (_root_.of_decide_eq_true HB_n1.out); omega
                            go_wp2_with (go_at_call 15; refine (H_qi.out _).mono ?_; rintro e w2 ⟨rfl, rfl⟩)
                            go_meet
                            exact ⟨by rw [← H27.out]; first | rfl | (simp [e_c2, e_n1]; done), rfl⟩
                          | false =>
                            have e_n1 : ¬ (m.number < (1 : Int)) := by have := (_root_.of_decide_eq_false HB_n1.out); omega
                            go_wp2_with (go_at_call 15; refine (H_qi.out _).mono ?_; rintro e w2 ⟨rfl, rfl⟩)
                            go_meet
                            exact ⟨by rw [← H27.out]; first | rfl | (simp [e_c2, e_n1]; done), rfl⟩
                      | false =>
                        go_wp2_with (go_at_call 15; refine (H_qi.out _).mono ?_; rintro e w2 ⟨rfl, rfl⟩)
                        go_meet
                        exact ⟨by rw [← H27.out]; first | rfl | (simp []; done), rfl⟩
                    case rest =>
                      as_aux_lemma =>
                      obtain ⟨rfl, hwq⟩ := hcut
                      have hwq := hwq.symm
                      subst hwq
                      clear H27 H_qi
                      cases B27 with
                      | true =>
                        as_aux_lemma =>
                        have HGF : Hid (goodR m r = false) := hid (by rw [HK.out]; rfl)
                        go_wp2_with fail
                        go_ret
                        exact ⟨(congrArg (fun b => Ending.returned (Value.bool b)) HGF.out).symm, HFF.out⟩
                      | false =>
                        as_aux_lemma =>
                        go_upto_region 29 with fail
                        go_cut [238] from 232 to 237 (fun t wq => t = .bool B29 ∧ wq = wr)
                        case first =>
                          as_aux_lemma =>
                          clear HK
                          obtain ⟨b_x1, hb_x1⟩ : ∃ b, (decide (m.nonce < 1)) = b := ⟨_, rfl⟩
                          rw [hb_x1] at H29
                          have HB_x1 := hid hb_x1
                          clear hb_x1
                          cases b_qx with
                          | true =>
                            cases b_x1 with
                            | true =>
                              have e_x1 : m.nonce < (1 : Int) := by have := (_root_.of_decide_eq_true HB_x1.out); omega
                              go_wp2_with (go_at_call 15; refine (H_qx.out _).mono ?_; rintro e w2 ⟨rfl, rfl⟩)
                              go_meet
                              exact ⟨by rw [← H29.out]; first | rfl | (simp [e_x1]; done), rfl⟩
                            | false =>
                              have e_x1 : ¬ (m.nonce < (1 : Int)) := by have := (_root_.of_decide_eq_false HB_x1.out); omega
                              go_wp2_with (go_at_call 15; refine (H_qx.out _).mono ?_; rintro e w2 ⟨rfl, rfl⟩)
                              go_meet
                              exact ⟨by rw [← H29.out]; first | rfl | (simp [e_x1]; done), rfl⟩
                          | false =>
                            go_wp2_with (go_at_call 15; refine (H_qx.out _).mono ?_; rintro e w2 ⟨rfl, rfl⟩)
                            go_meet
                            exact ⟨by rw [← H29.out]; first | rfl | (simp []; done), rfl⟩
                        case rest =>
                          as_aux_lemma =>
                          obtain ⟨rfl, hwq⟩ := hcut
                          have hwq := hwq.symm
                          subst hwq
                          clear H29 H_qx
                          cases B29 with
                          | true =>
                            as_aux_lemma =>
                            have HGF : Hid (goodR m r = false) := hid (by rw [HK.out]; rfl)
                            go_wp2_with fail
                            go_ret
                            exact ⟨(congrArg (fun b => Ending.returned (Value.bool b)) HGF.out).symm, HFF.out⟩
                          | false =>
                            as_aux_lemma =>
                            go_upto_region 31 with fail
                            go_cut [247] from 239 to 246 (fun t wq => t = .bool B31 ∧ wq = wr)
                            case first =>
                              as_aux_lemma =>
                              clear HK
                              obtain ⟨b_oc, hb_oc⟩ : ∃ b, (decide (m.op < m.commit)) = b := ⟨_, rfl⟩
                              rw [hb_oc] at H31
                              have HB_oc := hid hb_oc
                              clear hb_oc
                              cases b_qc with
                              | true =>
                                cases b_oc with
                                | true =>
                                  have e_oc : m.op < m.commit := by have := (_root_.of_decide_eq_true HB_oc.out); omega
                                  go_wp2_with (go_at_call 15; refine (H_qc.out _).mono ?_; rintro e w2 ⟨rfl, rfl⟩)
                                  go_meet
                                  exact ⟨by rw [← H31.out]; first | rfl | (simp [e_oc]; done), rfl⟩
                                | false =>
                                  have e_oc : ¬ (m.op < m.commit) := by have := (_root_.of_decide_eq_false HB_oc.out); omega
                                  go_wp2_with (go_at_call 15; refine (H_qc.out _).mono ?_; rintro e w2 ⟨rfl, rfl⟩)
                                  go_meet
                                  exact ⟨by rw [← H31.out]; first | rfl | (simp [e_oc]; done), rfl⟩
                              | false =>
                                go_wp2_with (go_at_call 15; refine (H_qc.out _).mono ?_; rintro e w2 ⟨rfl, rfl⟩)
                                go_meet
                                exact ⟨by rw [← H31.out]; first | rfl | (simp []; done), rfl⟩
                            case rest =>
                              as_aux_lemma =>
                              obtain ⟨rfl, hwq⟩ := hcut
                              have hwq := hwq.symm
                              subst hwq
                              clear H31 H_qc
                              cases B31 with
                              | true =>
                                as_aux_lemma =>
                                have HGF : Hid (goodR m r = false) := hid (by rw [HK.out]; rfl)
                                go_wp2_with fail
                                go_ret
                                exact ⟨(congrArg (fun b => Ending.returned (Value.bool b)) HGF.out).symm, HFF.out⟩
                              | false =>
                                as_aux_lemma =>
                                obtain ⟨b_l1, hb_l1⟩ : ∃ b, (decide (m.entries.length = 1)) = b := ⟨_, rfl⟩
                                rw [hb_l1] at HK
                                have HB_l1 := hid hb_l1
                                clear hb_l1
                                obtain ⟨b_o1, hb_o1⟩ : ∃ b, (decide (0 < m.op)) = b := ⟨_, rfl⟩
                                rw [hb_o1] at HK
                                have HB_o1 := hid hb_o1
                                clear hb_o1
                                obtain ⟨b_l0, hb_l0⟩ : ∃ b, (decide (m.entries.length = 0)) = b := ⟨_, rfl⟩
                                rw [hb_l0] at HK
                                have HB_l0 := hid hb_l0
                                clear hb_l0
                                obtain ⟨b_lv, hb_lv⟩ : ∃ b, (decide (m.last ≤ m.view)) = b := ⟨_, rfl⟩
                                rw [hb_lv] at HK
                                have HB_lv := hid hb_lv
                                clear hb_lv
                                obtain ⟨b_bc, hb_bc⟩ : ∃ b, (decide (m.base ≤ m.commit)) = b := ⟨_, rfl⟩
                                rw [hb_bc] at HK
                                have HB_bc := hid hb_bc
                                clear hb_bc
                                obtain ⟨b_lo, hb_lo⟩ : ∃ b, (decide ((m.entries.length : Int) = m.op - m.base)) = b := ⟨_, rfl⟩
                                rw [hb_lo] at HK
                                have HB_lo := hid hb_lo
                                clear hb_lo
                                obtain ⟨b_b0, hb_b0⟩ : ∃ b, (decide (0 < m.base)) = b := ⟨_, rfl⟩
                                rw [hb_b0] at HK
                                have HB_b0 := hid hb_b0
                                clear hb_b0
                                obtain ⟨b_st, hb_st⟩ : ∃ b, (decide (m.state = [])) = b := ⟨_, rfl⟩
                                rw [hb_st] at HK
                                have HB_st := hid hb_st
                                clear hb_st
                                cases b_qe with
                                | true =>
                                  cases b_l1 with
                                  | true =>
                                    have e_l1 : ((m.entries.length : Int) == 1) = true := beq_iff_eq.2 (by have := (_root_.of_decide_eq_true HB_l1.out); omega)
                                    cases b_o1 with
                                    | true =>
                                      have e_o1 : (0 : Int) < m.op := by have := (_root_.of_decide_eq_true HB_o1.out); omega
                                      go_wp2_with (go_at_call 15; first | (with_reducible refine (H_qe.out _).mono ?_; rintro e w2 ⟨rfl, rfl⟩) | (with_reducible refine (H_qT.out _).mono ?_; rintro e w2 ⟨rfl, rfl⟩))
                                      go_ret
                                      exact ⟨by rw [HK.out]; first | rfl | (simp [e_l1, e_o1]; done), HFF.out⟩
                                    | false =>
                                      have e_o1 : ¬ ((0 : Int) < m.op) := by have := (_root_.of_decide_eq_false HB_o1.out); omega
                                      go_wp2_with (go_at_call 15; first | (with_reducible refine (H_qe.out _).mono ?_; rintro e w2 ⟨rfl, rfl⟩) | (with_reducible refine (H_qT.out _).mono ?_; rintro e w2 ⟨rfl, rfl⟩))
                                      go_ret
                                      exact ⟨by rw [HK.out]; first | rfl | (simp [e_o1]; done), HFF.out⟩
                                  | false =>
                                    have e_l1 : ((m.entries.length : Int) == 1) = false := beq_eq_false_iff_ne.2 (by have := (_root_.of_decide_eq_false HB_l1.out); omega)
                                    go_wp2_with (go_at_call 15; first | (with_reducible refine (H_qe.out _).mono ?_; rintro e w2 ⟨rfl, rfl⟩) | (with_reducible refine (H_qT.out _).mono ?_; rintro e w2 ⟨rfl, rfl⟩))
                                    go_ret
                                    exact ⟨by rw [HK.out]; first | rfl | (simp [e_l1]; done), HFF.out⟩
                                | false =>
                                  cases b_qT with
                                  | true =>
                                    cases b_lv with
                                    | true =>
                                      have e_lv : m.last ≤ m.view := by have := (_root_.of_decide_eq_true HB_lv.out); omega
                                      cases b_bc with
                                      | true =>
                                        have e_bc : m.base ≤ m.commit := by have := (_root_.of_decide_eq_true HB_bc.out); omega
                                        cases b_lo with
                                        | true =>
                                          have e_lo : (((m.entries.length : Int)) == (m.op - m.base)) = true := beq_iff_eq.2 (_root_.of_decide_eq_true HB_lo.out)
                                          have e'_lo : (((m.entries.length : Int)) != (m.op - m.base)) = false := by rw [bne, e_lo]; rfl
                                          cases b_b0 with
                                          | true =>
                                            have e_b0 : (0 : Int) < m.base := by have := (_root_.of_decide_eq_true HB_b0.out); omega
                                            go_wp2_with (go_at_call 15; first | (with_reducible refine (H_qe.out _).mono ?_; rintro e w2 ⟨rfl, rfl⟩) | (with_reducible refine (H_qT.out _).mono ?_; rintro e w2 ⟨rfl, rfl⟩))
                                            go_ret
                                            exact ⟨by rw [HK.out]; first | rfl | (simp [e_lv, e_bc, e_lo, e_b0]; done), HFF.out⟩
                                          | false =>
                                            have e_b0 : ¬ ((0 : Int) < m.base) := by have := (_root_.of_decide_eq_false HB_b0.out); omega
                                            cases b_st with
                                            | true =>
                                              have e_st : (m.state == []) = true := beq_iff_eq.2 (_root_.of_decide_eq_true HB_st.out)
                                              have e'_st : (m.state != []) = false := by rw [bne, e_st]; rfl
                                              go_wp2_with (go_at_call 15; first | (with_reducible refine (H_qe.out _).mono ?_; rintro e w2 ⟨rfl, rfl⟩) | (with_reducible refine (H_qT.out _).mono ?_; rintro e w2 ⟨rfl, rfl⟩))
                                              go_ret
                                              exact ⟨by rw [HK.out]; first | rfl | (simp [e_lv, e_bc, e_lo, e_b0, e_st]; done), HFF.out⟩
                                            | false =>
                                              have e_st : (m.state == []) = false := beq_eq_false_iff_ne.2 (_root_.of_decide_eq_false HB_st.out)
                                              have e'_st : (m.state != []) = true := by rw [bne, e_st]; rfl
                                              go_wp2_with (go_at_call 15; first | (with_reducible refine (H_qe.out _).mono ?_; rintro e w2 ⟨rfl, rfl⟩) | (with_reducible refine (H_qT.out _).mono ?_; rintro e w2 ⟨rfl, rfl⟩))
                                              go_ret
                                              exact ⟨by rw [HK.out]; first | rfl | (simp [e_b0]; done), HFF.out⟩
                                        | false =>
                                          have e_lo : (((m.entries.length : Int)) == (m.op - m.base)) = false := beq_eq_false_iff_ne.2 (_root_.of_decide_eq_false HB_lo.out)
                                          have e'_lo : (((m.entries.length : Int)) != (m.op - m.base)) = true := by rw [bne, e_lo]; rfl
                                          go_wp2_with (go_at_call 15; first | (with_reducible refine (H_qe.out _).mono ?_; rintro e w2 ⟨rfl, rfl⟩) | (with_reducible refine (H_qT.out _).mono ?_; rintro e w2 ⟨rfl, rfl⟩))
                                          go_ret
                                          exact ⟨by rw [HK.out]; first | rfl | (simp [e_lv, e_bc, e_lo]; done), HFF.out⟩
                                      | false =>
                                        have e_bc : ¬ (m.base ≤ m.commit) := by have := (_root_.of_decide_eq_false HB_bc.out); omega
                                        go_wp2_with (go_at_call 15; first | (with_reducible refine (H_qe.out _).mono ?_; rintro e w2 ⟨rfl, rfl⟩) | (with_reducible refine (H_qT.out _).mono ?_; rintro e w2 ⟨rfl, rfl⟩))
                                        go_ret
                                        exact ⟨by rw [HK.out]; first | rfl | (simp [e_lv, e_bc]; done), HFF.out⟩
                                    | false =>
                                      have e_lv : ¬ (m.last ≤ m.view) := by have := (_root_.of_decide_eq_false HB_lv.out); omega
                                      go_wp2_with (go_at_call 15; first | (with_reducible refine (H_qe.out _).mono ?_; rintro e w2 ⟨rfl, rfl⟩) | (with_reducible refine (H_qT.out _).mono ?_; rintro e w2 ⟨rfl, rfl⟩))
                                      go_ret
                                      exact ⟨by rw [HK.out]; first | rfl | (simp [e_lv]; done), HFF.out⟩
                                  | false =>
                                    cases b_l0 with
                                    | true =>
                                      have e_l0 : ((m.entries.length : Int) == 0) = true := beq_iff_eq.2 (by have := (_root_.of_decide_eq_true HB_l0.out); omega)
                                      go_wp2_with (go_at_call 15; first | (with_reducible refine (H_qe.out _).mono ?_; rintro e w2 ⟨rfl, rfl⟩) | (with_reducible refine (H_qT.out _).mono ?_; rintro e w2 ⟨rfl, rfl⟩))
                                      go_ret
                                      exact ⟨by rw [HK.out]; first | rfl | (simp [e_l0]; done), HFF.out⟩
                                    | false =>
                                      have e_l0 : ((m.entries.length : Int) == 0) = false := beq_eq_false_iff_ne.2 (by have := (_root_.of_decide_eq_false HB_l0.out); omega)
                                      go_wp2_with (go_at_call 15; first | (with_reducible refine (H_qe.out _).mono ?_; rintro e w2 ⟨rfl, rfl⟩) | (with_reducible refine (H_qT.out _).mono ?_; rintro e w2 ⟨rfl, rfl⟩))
                                      go_ret
                                      exact ⟨by rw [HK.out]; first | rfl | (simp [e_l0]; done), HFF.out⟩
end Go.Proofs.YtaejcejfpcjifaaDoor
