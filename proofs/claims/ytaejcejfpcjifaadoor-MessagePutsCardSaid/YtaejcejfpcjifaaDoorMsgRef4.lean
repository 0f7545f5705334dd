/- The body and the frame of a message, as the document says them. Printed by a program (msgref4.py). -/
import Derived.Test.YtaejcejfpcjifaaDoorMsgRef3
import Derived.Test.YtaejcejfpcjifaaDoorMsgG10
import Derived.Test.YtaejcejfpcjifaaDoorFrmSp
namespace Go.Proofs.YtaejcejfpcjifaaDoor
open Go.RowKit
open Msg

/-- What stands behind k letters. -/
def pre (m : Ms) (k : Nat) : List UInt8 := Oct.enc m.kind ++ headB m ++ ((lets m.kind m.full).take k).flatMap (letB m)
theorem pre_all (m : Ms) : pre m (lets m.kind m.full).length = body m := by
  unfold pre body restB
  rw [List.take_length, List.append_assoc]
theorem pre_len (m : Ms) (k : Nat) : (pre m k).length ≤ (body m).length := by
  have h : (lets m.kind m.full).flatMap (letB m) = ((lets m.kind m.full).take k).flatMap (letB m) ++ ((lets m.kind m.full).drop k).flatMap (letB m) := by
    rw [← List.flatMap_append, List.take_append_drop]
  unfold pre body restB
  rw [h]
  simp only [List.length_append]
  omega
theorem pre_next {m : Ms} {F : List UInt8} (hF : lets m.kind m.full = F) (k : Nat) (hk : k < F.length) : pre m (k + 1) = pre m k ++ letB m F[k] := by
  subst hF
  unfold pre
  rw [List.take_succ_eq_append_getElem hk, List.flatMap_append, List.append_assoc, List.append_assoc, List.append_assoc]
  simp
theorem lets_mem {k : Int} {f : Bool} {c : UInt8} (h : c ∈ lets k f) : c = 118 ∨ c = 108 ∨ c = 111 ∨ c = 99 ∨ c = 105 ∨ c = 110 ∨ c = 116 ∨ c = 101 ∨ c = 120 ∨ c = 102 ∨ c = 84 := by
  unfold lets at h
  by_cases h1 : k = 1
  · rw [if_pos h1] at h
    simp only [List.mem_cons, List.not_mem_nil, or_false] at h
    grind
  rw [if_neg h1] at h
  by_cases h2 : k = 2
  · rw [if_pos h2] at h
    simp only [List.mem_cons, List.not_mem_nil, or_false] at h
    grind
  rw [if_neg h2] at h
  by_cases h3 : k = 3
  · rw [if_pos h3] at h
    simp only [List.mem_cons, List.not_mem_nil, or_false] at h
    grind
  rw [if_neg h3] at h
  by_cases h4 : k = 4
  · rw [if_pos h4] at h
    simp only [List.mem_cons, List.not_mem_nil, or_false] at h
    grind
  rw [if_neg h4] at h
  by_cases h5 : k = 5
  · rw [if_pos h5] at h
    simp only [List.mem_cons, List.not_mem_nil, or_false] at h
    grind
  rw [if_neg h5] at h
  by_cases h6 : k = 6
  · rw [if_pos h6] at h
    simp only [List.mem_cons, List.not_mem_nil, or_false] at h
    grind
  rw [if_neg h6] at h
  by_cases h7 : k = 7
  · rw [if_pos h7] at h
    simp only [List.mem_cons, List.not_mem_nil, or_false] at h
    grind
  rw [if_neg h7] at h
  by_cases h8 : k = 8
  · rw [if_pos h8] at h
    simp only [List.mem_cons, List.not_mem_nil, or_false] at h
    grind
  rw [if_neg h8] at h
  by_cases h9 : k = 9
  · rw [if_pos h9] at h
    simp only [List.mem_cons, List.not_mem_nil, or_false] at h
    grind
  rw [if_neg h9] at h
  by_cases h10 : k = 10
  · rw [if_pos h10] at h
    cases f <;> simp at h <;> grind
  rw [if_neg h10] at h
  by_cases h11 : k = 11
  · rw [if_pos h11] at h
    simp only [List.mem_cons, List.not_mem_nil, or_false] at h
    grind
  rw [if_neg h11] at h
  by_cases h12 : k = 12
  · rw [if_pos h12] at h
    simp only [List.mem_cons, List.not_mem_nil, or_false] at h
    grind
  rw [if_neg h12] at h
  simp at h
theorem lets_len (k : Int) (f : Bool) : (lets k f).length ≤ 6 := by
  unfold lets
  by_cases h1 : k = 1
  · rw [if_pos h1]; simp
  rw [if_neg h1]
  by_cases h2 : k = 2
  · rw [if_pos h2]; simp
  rw [if_neg h2]
  by_cases h3 : k = 3
  · rw [if_pos h3]; simp
  rw [if_neg h3]
  by_cases h4 : k = 4
  · rw [if_pos h4]; simp
  rw [if_neg h4]
  by_cases h5 : k = 5
  · rw [if_pos h5]; simp
  rw [if_neg h5]
  by_cases h6 : k = 6
  · rw [if_pos h6]; simp
  rw [if_neg h6]
  by_cases h7 : k = 7
  · rw [if_pos h7]; simp
  rw [if_neg h7]
  by_cases h8 : k = 8
  · rw [if_pos h8]; simp
  rw [if_neg h8]
  by_cases h9 : k = 9
  · rw [if_pos h9]; simp
  rw [if_neg h9]
  by_cases h10 : k = 10
  · rw [if_pos h10]; cases f <;> simp
  rw [if_neg h10]
  by_cases h11 : k = 11
  · rw [if_pos h11]; simp
  rw [if_neg h11]
  by_cases h12 : k = 12
  · rw [if_pos h12]; simp
  rw [if_neg h12]
  simp
theorem ent0 (l : List Ent) (h : l.length = 1) : (match (generalizing := false) l with | [] => [] | x :: _ => entB x) = entB (l[0]'(by omega)) := by
  match l, h with
  | [x], _ => rfl
theorem e_one {m : Ms} {r : Int} (h : good m r = true) (he : (101 : UInt8) ∈ lets m.kind m.full) : m.entries.length = 1 := by
  obtain ⟨-, hK, -, -, -, -, hf, -⟩ := good_parts h
  have hk : m.kind = 2 := by
    rcases kinds hK with e | e | e | e | e | e | e | e | e | e | e | e
    all_goals first
      | exact e
      | (exfalso; rw [e] at he; revert he; cases m.full <;> simp [lets])
  unfold fits at hf
  simp only [hk] at hf
  simp at hf
  omega
set_option maxRecDepth 100000 in
set_option maxHeartbeats 8000000 in
theorem rbody_any (m : Ms) (kv ev : Value) (r : Int) (w : World) (hg : good m r = true) (hr : MsR w m kv ev) :
    Calls Tryd.prog 32 #[msV m kv ev] w fun e w' => e = .returned (.string ⟨(body m).toArray⟩) ∧ Frm No w w' := by
  have HM := hid hr
  obtain ⟨hW, hK, -, -, -, -, -, hlens, he, -⟩ := good_parts hg
  have hkl7 := hW.klen
  have hel64 := hW.elen
  have hbl := body_len hg
  simp only [lens, Bool.and_eq_true, decide_eq_true_eq] at hlens
  have hst := hlens.1.2
  have htx := hlens.1.1
  have HTXS : Hid (∀ x ∈ m.entries, x.text.length ≤ 65536) := hid (fun x hx => by
    have := List.all_eq_true.1 he x hx
    simp only [entG, Bool.and_eq_true, decide_eq_true_eq] at this
    omega)
  have HE1 := hid (e_one hg)
  have HPL := hid (pre_len m)
  have HPN := hid (fun F (hF : lets m.kind m.full = F) => pre_next (m := m) hF)
  have HPA := hid (pre_all m)
  have HBD : Hid (body m = Oct.enc m.kind ++ restB m) := hid rfl
  obtain ⟨kao, kcp, rfl⟩ := hr.kr.shape
  obtain ⟨eao, ecp, rfl⟩ := hr.er.shape
  have HFS := hid (fun (w1 : World) => rfields_any m (.slice kao m.known.length kcp) (.slice eao m.entries.length ecp) w1 hK ⟨_, _, _, rfl⟩ ⟨_, _, _, rfl⟩)
  have hkz1 : 1 ≤ m.kind := by simp only [kindG, Bool.and_eq_true, decide_eq_true_eq] at hK; exact hK.1
  have HP := hid (fun n w => refput_any n w)
  have HTT := hid (fun s w hs => rmtext_any s w hs)
  have HEN := hid (fun x w hs => rmentry_any x w hs)
  have hFl := lets_len m.kind m.full
  obtain ⟨F, hF⟩ : ∃ F, lets m.kind m.full = F := ⟨_, rfl⟩
  simp only [hF] at HFS HPA HE1 hFl
  have HFE := hid hF
  clear hF hg hr hW hlens he hK
  have HV : Hid (msV m (.slice kao m.known.length kcp) (.slice eao m.entries.length ecp) = .agg #[.int .i64 m.kind, .int .i64 m.from_, .int .i64 m.born, .slice kao m.known.length kcp, .int .i64 m.view, .int .i64 m.last, .int .i64 m.op, .int .i64 m.commit, .int .i64 m.client, .int .i64 m.number, .int .i64 m.nonce, .string ⟨m.text.toArray⟩, .bool m.full, .int .i64 m.base, .string ⟨m.state.toArray⟩, .slice eao m.entries.length ecp]) := hid rfl
  rw [HV.out]
  rw [HV.out] at HFS
  go_enter Tryd.func32, Tryd.ntmps32
  go_upto_region 1 with fail
  have bW := BC.new w [.int .i64 m.kind, .int .i64 m.from_, .int .i64 m.born, .slice kao m.known.length kcp, .int .i64 m.view, .int .i64 m.last, .int .i64 m.op, .int .i64 m.commit, .int .i64 m.client, .int .i64 m.number, .int .i64 m.nonce, .string ⟨m.text.toArray⟩, .bool m.full, .int .i64 m.base, .string ⟨m.state.toArray⟩, .slice eao m.entries.length ecp] 34
  have F0 : Frm No w (w.alloc (.cells #[.int .i64 m.kind, .int .i64 m.from_, .int .i64 m.born, .slice kao m.known.length kcp, .int .i64 m.view, .int .i64 m.last, .int .i64 m.op, .int .i64 m.commit, .int .i64 m.client, .int .i64 m.number, .int .i64 m.nonce, .string ⟨m.text.toArray⟩, .bool m.full, .int .i64 m.base, .string ⟨m.state.toArray⟩, .slice eao m.entries.length ecp] 34)) := (Frm.refl No w).alloc _
  obtain ⟨W, hW⟩ : ∃ W, w.alloc (.cells #[.int .i64 m.kind, .int .i64 m.from_, .int .i64 m.born, .slice kao m.known.length kcp, .int .i64 m.view, .int .i64 m.last, .int .i64 m.op, .int .i64 m.commit, .int .i64 m.client, .int .i64 m.number, .int .i64 m.nonce, .string ⟨m.text.toArray⟩, .bool m.full, .int .i64 m.base, .string ⟨m.state.toArray⟩, .slice eao m.entries.length ecp] 34) = W := ⟨_, rfl⟩
  have hlW : w.heap.size < W.heap.size := by rw [← hW]; simp
  rw [hW] at bW F0
  simp only [hW]
  clear hW
  obtain ⟨B, hB⟩ : ∃ B, w.heap.size = B := ⟨_, rfl⟩
  rw [hB] at bW hlW
  simp only [hB]
  have kM := bW.cell
  clear bW
  have HF0 := hid F0
  clear F0 hB
  have HKM := hid kM
  have HRE := hid (fun (wq : World) (hf : Frm No W wq) => fun j => (hf.cell (p := ⟨B, j, none⟩) hlW (fun h => h)).trans (HKM.out j))
  clear kM
  have kM0 := HRE.out _ (Frm.refl No W)
  have hl0 := Oct.enc_le m.kind
  go_upto_if 13 with (go_at_call 49; refine (HP.out _ _).mono ?_; rintro e w1 ⟨rfl, hf1⟩; have kM1 := HRE.out _ hf1)
  have HF1 := hid hf1
  clear kM0 hf1
  go_cut [3, 4] from 14 to 37 (fun s _ wq => s = .string ⟨(Oct.enc m.kind ++ headB m).toArray⟩ ∧ Frm No W wq)
  case first =>
    as_aux_lemma =>
    by_cases hk1 : m.kind = 1
    · as_aux_lemma =>
      have HHB : Hid (Oct.enc m.kind ++ headB m = Oct.enc m.kind) := hid (by rw [show headB m = [] from if_pos hk1, List.append_nil])
      have hk1z : ¬ (1 : Int) < m.kind := by omega
      clear hk1 hkz1
      go_wp2_with fail
      go_meet
      exact ⟨by rw [HHB.out], HF1.out⟩
    · as_aux_lemma =>
      have HHB : Hid (Oct.enc m.kind ++ headB m = Oct.enc m.kind ++ (Oct.enc m.from_ ++ Oct.enc m.born) ++ Oct.ints m.known) := hid (by rw [show headB m = Oct.enc m.from_ ++ Oct.enc m.born ++ Oct.ints m.known from if_neg hk1]; simp only [List.append_assoc])
      have hk1z : (1 : Int) < m.kind := by omega
      have hl1 := Oct.enc_le m.from_
      have hl2 := Oct.enc_le m.born
      have HIL := hid (fun (j : Nat) => Oct.ints_le (m.known.take j))
      have d1 := Wd.cell (kM1 1)
      have d2 := Wd.cell (kM1 2)
      clear hk1
      go_upto_region 3 with fail
      refine wp_region_frm (by kernel_rfl) (by kernel_rfl) ?_
      repeat (go_big_quiet_step (exact Calls.wd (HP.out _ _)))
      refine wpQuiet_nil ?_
      intro w2 hf2
      have HF2 := hid (HF1.out.thenNo hf2)
      clear kM1 d1 d2 hf2
      go_wp2_with fail
      have HD1 : Hid (decide (1 < m.kind) = true) := hid (decide_eq_true hk1z)
      rw [HD1.out]
      clear hk1z
      go_loopw [3, 4] (fun s iv wr => ∃ j : Nat, j ≤ m.known.length ∧ iv = .int .i64 (j : Int) ∧ s = .string ⟨(Oct.enc m.kind ++ (Oct.enc m.from_ ++ Oct.enc m.born) ++ Oct.ints (m.known.take j)).toArray⟩ ∧ Frm No W wr)
        (fun _ iv _ => m.known.length - (intOf iv).toNat)
      case atStart => exact ⟨0, by omega, rfl, by simp [Oct.ints], HF2.out⟩
      case round =>
        obtain ⟨j, hj, rfl, rfl, hf⟩ := hrel
        have kM := HRE.out _ hf
        have hrd := (HM.out.no (HF0.out.thenNo hf)).kr
        have hil := HIL.out j
        have hil2 : (m.known.take j).length ≤ 7 := by rw [List.length_take]; omega
        have HF3 := hid hf
        clear hf
        by_cases hjl : j < m.known.length
        · as_aux_lemma =>
          have hjz : (j : Int) < (m.known.length : Int) := by omega
          obtain ⟨b, o, rfl, hc⟩ := hrd.at_ (by omega)
          have hck := hc j (by omega)
          have hcell : wr.cell? ⟨b, o + j, none⟩ = some (.int .i64 m.known[j]) := by rw [hck]; simp [intsV]
          have HSN := hid (Oct.ints_snoc m.known j hjl)
          obtain ⟨x, hx⟩ : ∃ x, m.known[j] = x := ⟨_, rfl⟩
          rw [hx] at hcell HSN
          have hlx := Oct.enc_le x
          clear hc hck hx hrd
          obtain ⟨acc, hacc⟩ : ∃ acc, Oct.enc m.kind ++ (Oct.enc m.from_ ++ Oct.enc m.born) ++ Oct.ints (m.known.take j) = acc := ⟨_, rfl⟩
          have hal : acc.length ≤ 1000 := by rw [← hacc]; simp only [List.length_append]; omega
          have HNX : Hid (Oct.enc m.kind ++ (Oct.enc m.from_ ++ Oct.enc m.born) ++ Oct.ints (m.known.take (j + 1)) = acc ++ Oct.enc x) := hid (by rw [HSN.out, ← hacc]; simp only [List.append_assoc])
          rw [hacc]
          clear hacc hil hil2 HSN HHB
          go_wp2_with (go_at_call 49; refine (HP.out _ _).mono ?_; rintro e w3 ⟨rfl, hf3⟩)
          exact ⟨⟨j + 1, by omega, by go_num, by rw [HNX.out], HF3.out.thenNo hf3⟩, by simp only [intOf]; omega⟩
        · as_aux_lemma =>
          obtain rfl : j = m.known.length := by omega
          have hjz : ¬ (m.known.length : Int) < (m.known.length : Int) := by omega
          have HH2 : Hid (Oct.enc m.kind ++ headB m = Oct.enc m.kind ++ (Oct.enc m.from_ ++ Oct.enc m.born) ++ Oct.ints (m.known.take m.known.length)) := hid (by rw [HHB.out, List.take_length])
          obtain ⟨acc, hacc⟩ : ∃ acc, Oct.enc m.kind ++ (Oct.enc m.from_ ++ Oct.enc m.born) ++ Oct.ints (m.known.take m.known.length) = acc := ⟨_, rfl⟩
          rw [hacc] at HH2 ⊢
          clear hrd hil hil2 hacc HHB
          go_wp2_with fail
          refine Met.intro ?_
          go_step
          (repeat apply Exists.intro)
          refine ⟨?rel, ?fr⟩
          case fr => rw [HD1.out]
          case rel => exact ⟨by rw [HH2.out], HF3.out⟩
  case rest =>
    as_aux_lemma =>
    obtain ⟨rfl, hf4⟩ := hcut
    obtain ⟨w4, rfl⟩ : ∃ w4, w4 = wc := ⟨_, rfl⟩
    have kM4 := HRE.out _ hf4
    have HF4 := hid hf4
    have hP0 : Oct.enc m.kind ++ headB m = pre m 0 := by unfold pre; simp
    rw [hP0]
    clear hP0 kM1 HF1 hf4
    generalize hp0 : pre m 0 = p0
    have HP0 := hid hp0
    clear hp0
    go_upto_region 9 with (go_at_call 14; refine (HFS.out _).mono ?_; rintro e w5 ⟨rfl, hf5⟩)
    have HF5 := hid (HF4.out.thenNo hf5)
    clear kM4 HF4 hf5 HFS
    go_wp2_with fail
    go_loopw [3, 6] (fun s iv wr => ∃ k : Nat, k ≤ F.length ∧ iv = .int .i64 (k : Int) ∧ s = .string ⟨(pre m k).toArray⟩ ∧ Frm No W wr)
      (fun _ iv _ => F.length - (intOf iv).toNat)
    case atStart => exact ⟨0, by omega, rfl, by rw [HP0.out], HF5.out⟩
    case round =>
      obtain ⟨k, hk, rfl, rfl, hf⟩ := hrel
      by_cases hkl : k < F.length
      · as_aux_lemma =>
        have hkz : (k : Int) < (F.length : Int) := by omega
        have HNX := hid (HPN.out F HFE.out k hkl)
        have hpl : (pre m k).length ≤ 1048576 := Nat.le_trans (HPL.out k) hbl
        have hpl2 : (pre m (k + 1)).length ≤ 1048576 := Nat.le_trans (HPL.out (k + 1)) hbl
        have HPL2 := hid hpl2
        have hmem := lets_mem (k := m.kind) (f := m.full) (c := F[k]) (by rw [HFE.out]; exact List.getElem_mem hkl)
        have HME : Hid (F[k] = 101 → m.entries.length = 1) := hid (fun h => HE1.out (by rw [← h]; exact List.getElem_mem hkl))
        obtain ⟨p, hp⟩ : ∃ p, pre m k = p := ⟨_, rfl⟩
        rw [hp] at HNX hpl
        rw [hp]
        have HF := hid hf
        have kM := HRE.out _ hf
        have HMR := hid (HM.out.no (HF0.out.thenNo hf))
        clear hp hf hpl2 HPL HPN HPA HE1
        go_upto_region 18 with fail
        obtain ⟨c, hc⟩ : ∃ c, F[k] = c := ⟨_, rfl⟩
        simp only [hc] at hmem HNX HME
        rw [hc]
        clear hc
        rcases hmem with rfl | rfl | rfl | rfl | rfl | rfl | rfl | rfl | rfl | rfl | rfl
        · as_aux_lemma =>
          have HLB : Hid (pre m (k + 1) = p ++ Oct.enc m.view) := hid HNX.out
          have hl1 := Oct.enc_le m.view
          clear HNX HME HPL2 HMR
          go_wp2_with (go_at_call 49; refine (HP.out _ _).mono ?_; rintro e w3 ⟨rfl, hf3⟩)
          exact ⟨⟨k + 1, by omega, by go_num, by rw [HLB.out], HF.out.thenNo hf3⟩, by simp only [intOf]; omega⟩
        · as_aux_lemma =>
          have HLB : Hid (pre m (k + 1) = p ++ Oct.enc m.last) := hid HNX.out
          have hl1 := Oct.enc_le m.last
          clear HNX HME HPL2 HMR
          go_wp2_with (go_at_call 49; refine (HP.out _ _).mono ?_; rintro e w3 ⟨rfl, hf3⟩)
          exact ⟨⟨k + 1, by omega, by go_num, by rw [HLB.out], HF.out.thenNo hf3⟩, by simp only [intOf]; omega⟩
        · as_aux_lemma =>
          have HLB : Hid (pre m (k + 1) = p ++ Oct.enc m.op) := hid HNX.out
          have hl1 := Oct.enc_le m.op
          clear HNX HME HPL2 HMR
          go_wp2_with (go_at_call 49; refine (HP.out _ _).mono ?_; rintro e w3 ⟨rfl, hf3⟩)
          exact ⟨⟨k + 1, by omega, by go_num, by rw [HLB.out], HF.out.thenNo hf3⟩, by simp only [intOf]; omega⟩
        · as_aux_lemma =>
          have HLB : Hid (pre m (k + 1) = p ++ Oct.enc m.commit) := hid HNX.out
          have hl1 := Oct.enc_le m.commit
          clear HNX HME HPL2 HMR
          go_wp2_with (go_at_call 49; refine (HP.out _ _).mono ?_; rintro e w3 ⟨rfl, hf3⟩)
          exact ⟨⟨k + 1, by omega, by go_num, by rw [HLB.out], HF.out.thenNo hf3⟩, by simp only [intOf]; omega⟩
        · as_aux_lemma =>
          have HLB : Hid (pre m (k + 1) = p ++ Oct.enc m.client) := hid HNX.out
          have hl1 := Oct.enc_le m.client
          clear HNX HME HPL2 HMR
          go_wp2_with (go_at_call 49; refine (HP.out _ _).mono ?_; rintro e w3 ⟨rfl, hf3⟩)
          exact ⟨⟨k + 1, by omega, by go_num, by rw [HLB.out], HF.out.thenNo hf3⟩, by simp only [intOf]; omega⟩
        · as_aux_lemma =>
          have HLB : Hid (pre m (k + 1) = p ++ Oct.enc m.number) := hid HNX.out
          have hl1 := Oct.enc_le m.number
          clear HNX HME HPL2 HMR
          go_wp2_with (go_at_call 49; refine (HP.out _ _).mono ?_; rintro e w3 ⟨rfl, hf3⟩)
          exact ⟨⟨k + 1, by omega, by go_num, by rw [HLB.out], HF.out.thenNo hf3⟩, by simp only [intOf]; omega⟩
        · as_aux_lemma =>
          have HLB : Hid (pre m (k + 1) = p ++ Oct.text m.text) := hid HNX.out
          have hl1 := Oct.text_le m.text
          clear HNX HME HPL2 HMR
          go_wp2_with (go_at_call 51; refine (HTT.out _ _ (by omega)).mono ?_; rintro e w3 ⟨rfl, hf3⟩)
          exact ⟨⟨k + 1, by omega, by go_num, by rw [HLB.out], HF.out.thenNo hf3⟩, by simp only [intOf]; omega⟩
        · as_aux_lemma =>
          have h1 := HME.out rfl
          have her := HMR.out.er
          obtain ⟨g, o, rfl, hc⟩ := her.at_ (by omega)
          have hc0 := hc 0 (by omega)
          have htx0 := HTXS.out m.entries[0] (List.getElem_mem _)
          have HLB : Hid (pre m (k + 1) = p ++ entB (m.entries[0]'(by omega))) := hid (by
            rw [HNX.out]
            congr 1
            exact ent0 m.entries h1)
          obtain ⟨x, hx⟩ : ∃ x, m.entries[0]'(by omega) = x := ⟨_, rfl⟩
          simp only [hx] at hc0 htx0 HLB
          obtain ⟨xc, xn, xt⟩ := x
          have r0 : wr.cell? ⟨g, o, none⟩ = some (.int .i64 xc) := by have := hc0 0 (by omega); simpa [entV] using this
          have r1 : wr.cell? ⟨g, o + 1, none⟩ = some (.int .i64 xn) := by have := hc0 1 (by omega); simpa [entV] using this
          have r2 : wr.cell? ⟨g, o + 2, none⟩ = some (.string ⟨xt.toArray⟩) := by have := hc0 2 (by omega); simpa [entV] using this
          have hez : (0 : Int) < (m.entries.length : Int) := by omega
          have hl1 : (entB ⟨xc, xn, xt⟩).length ≤ 70000 := by
            have h2 := Oct.enc_le xc
            have h3 := Oct.enc_le xn
            have h4 := Oct.text_le xt
            simp only [entB, List.length_append]
            omega
          have HEN2 := hid (fun w => HEN.out ⟨xc, xn, xt⟩ w htx0)
          clear HNX HME HPL2 HMR her hc hc0 hx h1 htx0 HEN
          go_wp2_with (go_at_call 52; refine (HEN2.out _).mono ?_; rintro e w3 ⟨rfl, hf3⟩)
          exact ⟨⟨k + 1, by omega, by go_num, by rw [HLB.out], HF.out.thenNo hf3⟩, by simp only [intOf]; omega⟩
        · as_aux_lemma =>
          have HLB : Hid (pre m (k + 1) = p ++ Oct.enc m.nonce) := hid HNX.out
          have hl1 := Oct.enc_le m.nonce
          clear HNX HME HPL2 HMR
          go_wp2_with (go_at_call 49; refine (HP.out _ _).mono ?_; rintro e w3 ⟨rfl, hf3⟩)
          exact ⟨⟨k + 1, by omega, by go_num, by rw [HLB.out], HF.out.thenNo hf3⟩, by simp only [intOf]; omega⟩
        · as_aux_lemma =>
          have HLB : Hid (pre m (k + 1) = p ++ Oct.flag m.full) := hid HNX.out
          clear HNX HME HPL2 HMR
          rcases Bool.eq_false_or_eq_true m.full with hfu | hfu
          · have k12 : wr.cell? ⟨B, 12, none⟩ = some (.bool true) := (kM 12).trans (by rw [hfu]; rfl)
            rw [hfu] at HLB
            clear kM hfu
            go_wp2_with fail
            exact ⟨⟨k + 1, by omega, by go_num, by rw [HLB.out]; rfl, HF.out⟩, by simp only [intOf]; omega⟩
          · have k12 : wr.cell? ⟨B, 12, none⟩ = some (.bool false) := (kM 12).trans (by rw [hfu]; rfl)
            rw [hfu] at HLB
            clear kM hfu
            go_wp2_with fail
            exact ⟨⟨k + 1, by omega, by go_num, by rw [HLB.out]; rfl, HF.out⟩, by simp only [intOf]; omega⟩
        · as_aux_lemma =>
          have HLB : Hid (pre m (k + 1) = p ++ tailB m) := hid HNX.out
          have hpb : (p ++ tailB m).length ≤ 1048576 := by rw [← HLB.out]; exact HPL2.out
          have hl1 := Oct.enc_le m.base
          have hl2 := Oct.text_le m.state
          have hl3 := Oct.enc_le (m.entries.length : Int)
          have d1 := Wd.cell (kM 13)
          have d2 := Wd.cell (kM 14)
          have d3 := Wd.cell (kM 15)
          have HTS := hid (fun w => HTT.out m.state w (by omega))
          clear HNX HME HPL2
          go_upto_region 13 with fail
          refine wp_region_frm (by kernel_rfl) (by kernel_rfl) ?_
          repeat (go_big_quiet_step (first | exact Calls.wd (HP.out _ _) | exact Calls.wd (HTS.out _)))
          refine wpQuiet_nil ?_
          intro w6 hf6
          have HF6 := hid (HF.out.thenNo hf6)
          clear d1 d2 d3 kM hf6 HMR
          obtain ⟨q, hq⟩ : ∃ q, p ++ (Oct.enc m.base ++ (Oct.text m.state ++ Oct.enc (m.entries.length : Int))) = q := ⟨_, rfl⟩
          have HQ : Hid (p ++ tailB m = q ++ entsB m.entries) := hid (by rw [← hq]; unfold tailB; simp only [List.append_assoc])
          have HQL : Hid (∀ j, (q ++ entsB (m.entries.take j)).length ≤ 1048576) := hid (fun j => by
            have h1 : entsB m.entries = entsB (m.entries.take j) ++ entsB (m.entries.drop j) := by
              unfold entsB
              rw [← List.flatMap_append, List.take_append_drop]
            rw [HQ.out, h1] at hpb
            simp only [List.length_append] at hpb ⊢
            omega)
          rw [hq]
          clear hpb hq
          go_wp2_with fail
          rw [show ((UInt8.toNat 84 : Nat) : Int) = 84 from rfl]
          go_loopw [3, 7] (fun s iv wr => ∃ j : Nat, j ≤ m.entries.length ∧ iv = .int .i64 (j : Int) ∧ s = .string ⟨(q ++ entsB (m.entries.take j)).toArray⟩ ∧ Frm No W wr)
            (fun _ iv _ => m.entries.length - (intOf iv).toNat)
          case atStart => exact ⟨0, by omega, rfl, by simp [entsB], HF6.out⟩
          case round =>
            obtain ⟨j, hj, rfl, rfl, hf⟩ := hrel
            have kM := HRE.out _ hf
            have her := (HM.out.no (HF0.out.thenNo hf)).er
            have hqlj := HQL.out j
            have HF3 := hid hf
            clear hf
            by_cases hjl : j < m.entries.length
            · as_aux_lemma =>
              have hjz : (j : Int) < (m.entries.length : Int) := by omega
              obtain ⟨g, o, rfl, hc⟩ := her.at_ (by omega)
              have hc0 := hc j hjl
              have htx0 := HTXS.out m.entries[j] (List.getElem_mem hjl)
              have HSN := hid (entsB_snoc m.entries j hjl)
              obtain ⟨x, hx⟩ : ∃ x, m.entries[j] = x := ⟨_, rfl⟩
              simp only [hx] at hc0 htx0 HSN
              obtain ⟨xc, xn, xt⟩ := x
              have r0 : wr.cell? ⟨g, o + j * 3, none⟩ = some (.int .i64 xc) := hc0 0 (by omega)
              have r1 : wr.cell? ⟨g, o + j * 3 + 1, none⟩ = some (.int .i64 xn) := hc0 1 (by omega)
              have r2 : wr.cell? ⟨g, o + j * 3 + 2, none⟩ = some (.string ⟨xt.toArray⟩) := hc0 2 (by omega)
              have hl4 : (entB ⟨xc, xn, xt⟩).length ≤ 70000 := by
                have h2 := Oct.enc_le xc
                have h3 := Oct.enc_le xn
                have h4 := Oct.text_le xt
                simp only [entB, List.length_append]
                omega
              have HEN2 := hid (fun w => HEN.out ⟨xc, xn, xt⟩ w htx0)
              obtain ⟨acc, hacc⟩ : ∃ acc, q ++ entsB (m.entries.take j) = acc := ⟨_, rfl⟩
              have HNX : Hid (q ++ entsB (m.entries.take (j + 1)) = acc ++ entB ⟨xc, xn, xt⟩) := hid (by rw [HSN.out, ← hacc, List.append_assoc])
              rw [hacc] at hqlj ⊢
              clear her hc hc0 hx htx0 HEN hacc HSN HQL HQ
              go_wp2_with (go_at_call 52; refine (HEN2.out _).mono ?_; rintro e w3 ⟨rfl, hf3⟩)
              exact ⟨⟨j + 1, by omega, by go_num, by rw [HNX.out], HF3.out.thenNo hf3⟩, by simp only [intOf]; omega⟩
            · as_aux_lemma =>
              obtain rfl : j = m.entries.length := by omega
              have hjz : ¬ (m.entries.length : Int) < (m.entries.length : Int) := by omega
              have HFIN : Hid (q ++ entsB (m.entries.take m.entries.length) = pre m (k + 1)) := hid (by rw [List.take_length, HLB.out, HQ.out])
              rw [HFIN.out]
              clear her hqlj HQL HQ HFIN
              go_wp2_with fail
              exact ⟨⟨k + 1, by omega, by go_num, rfl, HF3.out⟩, by simp only [intOf]; omega⟩
      · as_aux_lemma =>
        obtain rfl : k = F.length := by omega
        have hkz : ¬ (F.length : Int) < (F.length : Int) := by omega
        rw [HPA.out]
        have HF := hid hf
        clear hf
        go_wp2_with fail
        go_ret
        exact ⟨rfl, HF0.out.thenNo HF.out⟩
set_option maxRecDepth 100000 in
set_option maxHeartbeats 4000000 in
theorem rmput_any (m : Ms) (kv ev : Value) (r : Int) (w : World) (hS : Sml m) (hr : MsR w m kv ev) :
    Calls Tryd.prog 10 #[msV m kv ev, .int .i64 r] w fun e w' => e = .returned (.string ⟨(Msg.put m r).toArray⟩) ∧ Frm No w w' := by
  have HG := hid (fun w1 (hf : Frm No w w1) => rgood_any m kv ev r w1 hS (hr.no hf))
  rw [goodR_eq] at HG
  have HB := hid (fun w1 (hf : Frm No w w1) (hg : good m r = true) => rbody_any m kv ev r w1 hg (hr.no hf))
  have HBL := hid (fun (hg : good m r = true) => body_len hg)
  have HPU : Hid (Msg.put m r = if good m r = true then Frl.wrap (body m) else []) := hid rfl
  have HW := hid (fun b w (hl : b.length ≤ 140737488351232) => refwrap_any b w hl)
  obtain ⟨kao, kcp, rfl⟩ := hr.kr.shape
  obtain ⟨eao, ecp, rfl⟩ := hr.er.shape
  have HV : Hid (msV m (.slice kao m.known.length kcp) (.slice eao m.entries.length ecp) = .agg #[.int .i64 m.kind, .int .i64 m.from_, .int .i64 m.born, .slice kao m.known.length kcp, .int .i64 m.view, .int .i64 m.last, .int .i64 m.op, .int .i64 m.commit, .int .i64 m.client, .int .i64 m.number, .int .i64 m.nonce, .string ⟨m.text.toArray⟩, .bool m.full, .int .i64 m.base, .string ⟨m.state.toArray⟩, .slice eao m.entries.length ecp]) := hid rfl
  rw [HV.out] at HG HB ⊢
  clear HV hr hS
  obtain ⟨P, hP⟩ : ∃ P, Msg.put m r = P := ⟨_, rfl⟩
  rw [hP] at HPU ⊢
  clear hP
  generalize m.known.length = kl at *
  generalize m.entries.length = el at *
  go_enter Tryd.func10, Tryd.ntmps10
  go_upto_region 1 with fail
  have bW := BC.new w [.int .i64 m.kind, .int .i64 m.from_, .int .i64 m.born, .slice kao kl kcp, .int .i64 m.view, .int .i64 m.last, .int .i64 m.op, .int .i64 m.commit, .int .i64 m.client, .int .i64 m.number, .int .i64 m.nonce, .string ⟨m.text.toArray⟩, .bool m.full, .int .i64 m.base, .string ⟨m.state.toArray⟩, .slice eao el ecp] 34
  have F0 : Frm No w (w.alloc (.cells #[.int .i64 m.kind, .int .i64 m.from_, .int .i64 m.born, .slice kao kl kcp, .int .i64 m.view, .int .i64 m.last, .int .i64 m.op, .int .i64 m.commit, .int .i64 m.client, .int .i64 m.number, .int .i64 m.nonce, .string ⟨m.text.toArray⟩, .bool m.full, .int .i64 m.base, .string ⟨m.state.toArray⟩, .slice eao el ecp] 34)) := (Frm.refl No w).alloc _
  obtain ⟨W, hW⟩ : ∃ W, w.alloc (.cells #[.int .i64 m.kind, .int .i64 m.from_, .int .i64 m.born, .slice kao kl kcp, .int .i64 m.view, .int .i64 m.last, .int .i64 m.op, .int .i64 m.commit, .int .i64 m.client, .int .i64 m.number, .int .i64 m.nonce, .string ⟨m.text.toArray⟩, .bool m.full, .int .i64 m.base, .string ⟨m.state.toArray⟩, .slice eao el ecp] 34) = W := ⟨_, rfl⟩
  have hlW : w.heap.size < W.heap.size := by rw [← hW]; simp
  rw [hW] at bW F0
  simp only [hW]
  clear hW
  obtain ⟨B, hB⟩ : ∃ B, w.heap.size = B := ⟨_, rfl⟩
  rw [hB] at bW hlW
  simp only [hB]
  have kM := bW.cell
  clear bW
  have HF0 := hid F0
  clear F0 hB
  have HKM := hid kM
  have HRE := hid (fun (wq : World) (hf : Frm No W wq) => fun j => (hf.cell (p := ⟨B, j, none⟩) hlW (fun h => h)).trans (HKM.out j))
  cases hg : good m r with
  | false =>
    as_aux_lemma =>
    rw [hg] at HG HPU
    clear hg HB HBL HW
    go_wp2_with (go_at_call 7; refine (HG.out _ HF0.out).mono ?_; rintro e w1 ⟨rfl, hf1⟩)
    go_ret
    exact ⟨by rw [HPU.out]; rfl, HF0.out.thenNo hf1⟩
  | true =>
    as_aux_lemma =>
    rw [hg] at HG HPU
    have HB2 := hid (fun w1 hf => HB.out w1 hf hg)
    have hbl := HBL.out hg
    clear hg HB HBL
    obtain ⟨bb, hbb⟩ : ∃ bb, body m = bb := ⟨_, rfl⟩
    rw [hbb] at HB2 hbl HPU
    clear hbb
    have HW2 := hid (fun w => HW.out bb w (by omega))
    clear HW
    go_wp2_with (first | (go_at_call 7; refine (HG.out _ HF0.out).mono ?_; rintro e w1 ⟨rfl, hf1⟩; have kM1 := HRE.out _ hf1) | (go_at_call 32; refine (HB2.out _ (HF0.out.thenNo hf1)).mono ?_; rintro e w2 ⟨rfl, hf2⟩) | (go_at_call 31; refine (HW2.out _).mono ?_; rintro e w3 ⟨rfl, hf3⟩))
    go_ret
    exact ⟨by rw [HPU.out]; rfl, ((HF0.out.thenNo hf1).thenNo hf2).thenNo hf3⟩
end Go.Proofs.YtaejcejfpcjifaaDoor
