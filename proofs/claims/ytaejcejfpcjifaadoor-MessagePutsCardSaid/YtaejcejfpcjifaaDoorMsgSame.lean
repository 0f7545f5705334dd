/- Whether two messages are alike, as the document's answer says it. -/
import Derived.Test.YtaejcejfpcjifaaDoorMsgG4
import Derived.Deep.Cut
import Derived.Deep.CutRange
namespace Go.Proofs.YtaejcejfpcjifaaDoor
open Go.RowKit
open Msg

/-- All but the lists' elements. -/
def headB' (a b : Ms) : Bool := a.kind == b.kind && a.from_ == b.from_ && a.born == b.born && decide ((a.known.length : Int) = (b.known.length : Int)) && a.view == b.view && a.last == b.last && a.op == b.op && a.commit == b.commit && a.client == b.client && a.number == b.number && a.nonce == b.nonce && a.text == b.text && a.full == b.full && a.base == b.base && a.state == b.state && decide ((a.entries.length : Int) = (b.entries.length : Int))
theorem headB'_eq (a b : Ms) : headB' a b = true ↔ (a.kind = b.kind ∧ a.from_ = b.from_ ∧ a.born = b.born ∧ a.known.length = b.known.length ∧ a.view = b.view ∧ a.last = b.last ∧ a.op = b.op ∧ a.commit = b.commit ∧ a.client = b.client ∧ a.number = b.number ∧ a.nonce = b.nonce ∧ a.text = b.text ∧ a.full = b.full ∧ a.base = b.base ∧ a.state = b.state ∧ a.entries.length = b.entries.length) := by
  simp only [headB', Bool.and_eq_true, beq_iff_eq, decide_eq_true_eq, and_assoc, Int.ofNat_inj]
theorem eq_ms {a b : Ms} (h : headB' a b = true) (hk : a.known = b.known) (he : a.entries = b.entries) : a = b := by
  obtain ⟨h0, h1, h2, -, h4, h5, h6, h7, h8, h9, h10, h11, h12, h13, h14, -⟩ := (headB'_eq a b).1 h
  cases a; cases b; simp_all
theorem eq_head {a b : Ms} (h : a = b) : headB' a b = true := by subst h; rw [headB'_eq]; simp
theorem ref_ent_neq (x y : Ent) (w : World) : (binOp .neq 49 (.agg #[.int .i64 x.client, .int .i64 x.number, .string ⟨x.text.toArray⟩]) (.agg #[.int .i64 y.client, .int .i64 y.number, .string ⟨y.text.toArray⟩])).run Tryd.prog w = .ok (.bool (!decide (x = y))) w := by
  rw [run_neq_struct, ent_eq_in 49 (by kernel_rfl) (by kernel_rfl) (by kernel_rfl), ent_beq]
  rfl

set_option maxRecDepth 100000 in
set_option maxHeartbeats 8000000 in
theorem refsame_any (a b : Ms) (ka ea kb eb : Value) (w : World) (ha : MsR w a ka ea) (hb : MsR w b kb eb) (l1 : a.known.length ≤ 1000000) (l3 : a.entries.length ≤ 1000000) :
    Calls Tryd.prog 12 #[msV a ka ea, msV b kb eb] w fun e w' => e = .returned (.bool (decide (a = b))) ∧ Frm No w w' := by
  have HA := hid ha
  have HB := hid hb
  obtain ⟨kao, kcp, rfl⟩ := ha.kr.shape
  obtain ⟨eao, ecp, rfl⟩ := ha.er.shape
  obtain ⟨kbo, kbp, rfl⟩ := hb.kr.shape
  obtain ⟨ebo, ebp, rfl⟩ := hb.er.shape
  clear ha hb
  have HV : Hid (msV a (.slice kao a.known.length kcp) (.slice eao a.entries.length ecp) = .agg #[.int .i64 a.kind, .int .i64 a.from_, .int .i64 a.born, .slice kao a.known.length kcp, .int .i64 a.view, .int .i64 a.last, .int .i64 a.op, .int .i64 a.commit, .int .i64 a.client, .int .i64 a.number, .int .i64 a.nonce, .string ⟨a.text.toArray⟩, .bool a.full, .int .i64 a.base, .string ⟨a.state.toArray⟩, .slice eao a.entries.length ecp]) := hid rfl
  have HU : Hid (msV b (.slice kbo b.known.length kbp) (.slice ebo b.entries.length ebp) = .agg #[.int .i64 b.kind, .int .i64 b.from_, .int .i64 b.born, .slice kbo b.known.length kbp, .int .i64 b.view, .int .i64 b.last, .int .i64 b.op, .int .i64 b.commit, .int .i64 b.client, .int .i64 b.number, .int .i64 b.nonce, .string ⟨b.text.toArray⟩, .bool b.full, .int .i64 b.base, .string ⟨b.state.toArray⟩, .slice ebo b.entries.length ebp]) := hid rfl
  rw [HV.out, HU.out]
  clear HV HU
  go_enter Tryd.func12, Tryd.ntmps12
  go_upto_region 1 with fail
  have hF : Frm No w ((w.alloc (.cells #[.int .i64 a.kind, .int .i64 a.from_, .int .i64 a.born, .slice kao a.known.length kcp, .int .i64 a.view, .int .i64 a.last, .int .i64 a.op, .int .i64 a.commit, .int .i64 a.client, .int .i64 a.number, .int .i64 a.nonce, .string ⟨a.text.toArray⟩, .bool a.full, .int .i64 a.base, .string ⟨a.state.toArray⟩, .slice eao a.entries.length ecp] 34)).alloc (.cells #[.int .i64 b.kind, .int .i64 b.from_, .int .i64 b.born, .slice kbo b.known.length kbp, .int .i64 b.view, .int .i64 b.last, .int .i64 b.op, .int .i64 b.commit, .int .i64 b.client, .int .i64 b.number, .int .i64 b.nonce, .string ⟨b.text.toArray⟩, .bool b.full, .int .i64 b.base, .string ⟨b.state.toArray⟩, .slice ebo b.entries.length ebp] 34)) := ((Frm.refl No w).alloc _).alloc _
  have xa := two_box1 (Frm.refl No ((w.alloc (.cells #[.int .i64 a.kind, .int .i64 a.from_, .int .i64 a.born, .slice kao a.known.length kcp, .int .i64 a.view, .int .i64 a.last, .int .i64 a.op, .int .i64 a.commit, .int .i64 a.client, .int .i64 a.number, .int .i64 a.nonce, .string ⟨a.text.toArray⟩, .bool a.full, .int .i64 a.base, .string ⟨a.state.toArray⟩, .slice eao a.entries.length ecp] 34)).alloc (.cells #[.int .i64 b.kind, .int .i64 b.from_, .int .i64 b.born, .slice kbo b.known.length kbp, .int .i64 b.view, .int .i64 b.last, .int .i64 b.op, .int .i64 b.commit, .int .i64 b.client, .int .i64 b.number, .int .i64 b.nonce, .string ⟨b.text.toArray⟩, .bool b.full, .int .i64 b.base, .string ⟨b.state.toArray⟩, .slice ebo b.entries.length ebp] 34)))
  have xb := two_box2 (Frm.refl No ((w.alloc (.cells #[.int .i64 a.kind, .int .i64 a.from_, .int .i64 a.born, .slice kao a.known.length kcp, .int .i64 a.view, .int .i64 a.last, .int .i64 a.op, .int .i64 a.commit, .int .i64 a.client, .int .i64 a.number, .int .i64 a.nonce, .string ⟨a.text.toArray⟩, .bool a.full, .int .i64 a.base, .string ⟨a.state.toArray⟩, .slice eao a.entries.length ecp] 34)).alloc (.cells #[.int .i64 b.kind, .int .i64 b.from_, .int .i64 b.born, .slice kbo b.known.length kbp, .int .i64 b.view, .int .i64 b.last, .int .i64 b.op, .int .i64 b.commit, .int .i64 b.client, .int .i64 b.number, .int .i64 b.nonce, .string ⟨b.text.toArray⟩, .bool b.full, .int .i64 b.base, .string ⟨b.state.toArray⟩, .slice ebo b.entries.length ebp] 34)))
  obtain ⟨W, hWe⟩ : ∃ W, W = (w.alloc (.cells #[.int .i64 a.kind, .int .i64 a.from_, .int .i64 a.born, .slice kao a.known.length kcp, .int .i64 a.view, .int .i64 a.last, .int .i64 a.op, .int .i64 a.commit, .int .i64 a.client, .int .i64 a.number, .int .i64 a.nonce, .string ⟨a.text.toArray⟩, .bool a.full, .int .i64 a.base, .string ⟨a.state.toArray⟩, .slice eao a.entries.length ecp] 34)).alloc (.cells #[.int .i64 b.kind, .int .i64 b.from_, .int .i64 b.born, .slice kbo b.known.length kbp, .int .i64 b.view, .int .i64 b.last, .int .i64 b.op, .int .i64 b.commit, .int .i64 b.client, .int .i64 b.number, .int .i64 b.nonce, .string ⟨b.text.toArray⟩, .bool b.full, .int .i64 b.base, .string ⟨b.state.toArray⟩, .slice ebo b.entries.length ebp] 34) := ⟨_, rfl⟩
  rw [← hWe] at hF xa xb ⊢
  clear hWe
  have ca : w.heap.size < W.heap.size := World.block_lt_of_cell? W ⟨w.heap.size, 0, none⟩ (xa 0)
  have cb : w.heap.size + 1 < W.heap.size := World.block_lt_of_cell? W ⟨w.heap.size + 1, 0, none⟩ (xb 0)
  generalize w.heap.size = p0 at *
  go_cut [0, 1, 120] from 7 to 119 (fun _ _ t wq => t = .bool (!headB' a b) ∧ wq = W)
  case first =>
    clear HA HB hF
    have HH : Hid (headB' a b = _) := hid (headB'.eq_1 a b)
    generalize headB' a b = R at *
    go_wp2_with fail
    all_goals
      go_meet
      refine ⟨?_, rfl⟩
      rw [HH.out]
      first
        | (simp [*]; done)
        | (simp [*]; rfl)
  case rest =>
    as_aux_lemma =>
    obtain ⟨rfl, rfl⟩ := hcut
    cases hh : headB' a b
    · have hne : decide (a = b) = false := _root_.decide_eq_false (fun e => by rw [eq_head e] at hh; cases hh)
      have HN := hid hne
      clear hne hh
      go_wp2_with fail
      go_ret
      exact ⟨(congrArg (fun b => Ending.returned (.bool b)) HN.out).symm, hF⟩
    · obtain ⟨-, -, -, hkl, -, -, -, -, -, -, -, -, -, -, -, hel⟩ := (headB'_eq a b).1 hh
      have HE := hid (fun hk he => eq_ms hh hk he)
      clear hh
      have hka := (HA.out.no hF).kr
      have hkb := (HB.out.no hF).kr
      have hea := (HA.out.no hF).er
      have heb := (HB.out.no hF).er
      go_wp2_with fail
      go_loopw [5] (fun i wr => ∃ k : Nat, k ≤ a.known.length ∧ i = .int .i64 (k : Int) ∧ a.known.take k = b.known.take k ∧ Frm No wc wr) (fun i _ => a.known.length - (intOf i).toNat)
      case atStart => exact ⟨0, by omega, rfl, rfl, Frm.refl _ _⟩
      case round =>
        obtain ⟨k, hk, rfl, htk, hf⟩ := hrel
        have ya := fun j => (hf.cell (p := ⟨p0, j, none⟩) ca (fun h => h)).trans (xa j)
        have yb := fun j => (hf.cell (p := ⟨p0 + 1, j, none⟩) cb (fun h => h)).trans (xb j)
        by_cases hkl2 : k < a.known.length
        · obtain ⟨b1, o1, rfl, c1⟩ := hka.at_ (by omega)
          obtain ⟨b2, o2, rfl, c2⟩ := hkb.at_ (by omega)
          have q1 := c1 k (by omega)
          have q2 := c2 k (by omega)
          simp only [intsV, List.getElem_map] at q1 q2
          have r1 := (hf.cell (World.block_lt_of_cell? _ _ q1) (fun h => h)).trans q1
          have r2 := (hf.cell (World.block_lt_of_cell? _ _ q2) (fun h => h)).trans q2
          have hiff := take_eq_of a.known b.known k hkl hkl2 htk
          have hkz : (k : Int) < (a.known.length : Int) := by omega
          have hkz2 : (k : Int) < (b.known.length : Int) := by omega
          have HI := hid hiff
          have HF := hid hf
          have HFW := hid hF
          clear q1 q2 c1 c2 hiff hf hF xa xb htk hea heb HA HB
          obtain ⟨x, hx⟩ : ∃ x, a.known[k] = x := ⟨_, rfl⟩
          obtain ⟨y, hy⟩ : ∃ y, b.known[k]'(by omega) = y := ⟨_, rfl⟩
          rw [hx] at HI r1
          rw [hy] at HI r2
          by_cases hxy : x = y
          · have e1 : (x != y) = false := by simpa using hxy
            have HXY := hid hxy
            clear hxy
            go_wp2_with fail
            go_quiet (fail)
            go_wp2_with fail
            exact ⟨⟨k + 1, by omega, by go_num, HI.out.2 HXY.out, HF.out.drewN _⟩, by simp only [intOf]; omega⟩
          · have e1 : (x != y) = true := by simpa using hxy
            have hd : decide (a = b) = false := _root_.decide_eq_false (fun e => hxy (HI.out.1 (by rw [e])))
            have HD := hid hd
            clear hxy hd
            go_wp2_with fail
            go_quiet (fail)
            go_wp2_with fail
            go_ret
            exact ⟨(congrArg (fun b => Ending.returned (.bool b)) HD.out).symm, HFW.out.thenNo (HF.out.drewN _)⟩
        · obtain rfl : k = a.known.length := by omega
          have hke : a.known = b.known := by rw [List.take_length, hkl, List.take_length] at htk; exact htk
          have HF := hid hf
          have HKE := hid hke
          have HFW := hid hF
          have hkz : ¬ (a.known.length : Int) < (a.known.length : Int) := by omega
          clear hf htk hka hkb hke hF
          go_wp2_with fail
          have hea' := hea.frm (fun _ _ => rfl) HF.out (fun _ _ h => h)
          have heb' := heb.frm (fun _ _ => rfl) HF.out (fun _ _ h => h)
          have ca' := Nat.lt_of_lt_of_le ca HF.out.size
          have cb' := Nat.lt_of_lt_of_le cb HF.out.size
          clear hea heb xa xb ca cb
          generalize wr = wA at *
          go_loopw [6] (fun i w9 => ∃ k : Nat, k ≤ a.entries.length ∧ i = .int .i64 (k : Int) ∧ a.entries.take k = b.entries.take k ∧ Frm No wA w9) (fun i _ => a.entries.length - (intOf i).toNat)
          case atStart => exact ⟨0, by omega, rfl, rfl, Frm.refl _ _⟩
          case round =>
            obtain ⟨k, hk, rfl, htk, hf⟩ := hrel
            have za := fun j => (hf.cell (p := ⟨p0, j, none⟩) ca' (fun h => h)).trans (ya j)
            have zb := fun j => (hf.cell (p := ⟨p0 + 1, j, none⟩) cb' (fun h => h)).trans (yb j)
            clear ya yb
            by_cases hkl2 : k < a.entries.length
            · obtain ⟨b1, o1, rfl, c1⟩ := hea'.at_ (by omega)
              obtain ⟨b2, o2, rfl, c2⟩ := heb'.at_ (by omega)
              have q1 := c1 k hkl2
              have q2 := c2 k (by omega)
              have hiff := take_eq_of a.entries b.entries k hel hkl2 htk
              have hkz : (k : Int) < (a.entries.length : Int) := by omega
              have hkz2 : (k : Int) < (b.entries.length : Int) := by omega
              obtain ⟨x, hx⟩ : ∃ x, a.entries[k] = x := ⟨_, rfl⟩
              obtain ⟨y, hy⟩ : ∃ y, b.entries[k]'(by omega) = y := ⟨_, rfl⟩
              rw [hx] at hiff q1
              rw [hy] at hiff q2
              have hb1 : b1 < wA.heap.size := World.block_lt_of_cell? (u := .int .i64 x.client) wA ⟨b1, o1 + (k * 3 + 0), none⟩ (by rw [q1 0 (by omega)]; rfl)
              have hb2 : b2 < wA.heap.size := World.block_lt_of_cell? (u := .int .i64 y.client) wA ⟨b2, o2 + (k * 3 + 0), none⟩ (by rw [q2 0 (by omega)]; rfl)
              have r0 : wr.cell? ⟨b1, o1 + k * 3, none⟩ = some (.int .i64 x.client) := (hf.cell hb1 (fun h => h)).trans (q1 0 (by omega))
              have r1 : wr.cell? ⟨b1, o1 + k * 3 + 1, none⟩ = some (.int .i64 x.number) := (hf.cell hb1 (fun h => h)).trans (q1 1 (by omega))
              have r2 : wr.cell? ⟨b1, o1 + k * 3 + 2, none⟩ = some (.string ⟨x.text.toArray⟩) := (hf.cell hb1 (fun h => h)).trans (q1 2 (by omega))
              have s0 : wr.cell? ⟨b2, o2 + k * 3, none⟩ = some (.int .i64 y.client) := (hf.cell hb2 (fun h => h)).trans (q2 0 (by omega))
              have s1 : wr.cell? ⟨b2, o2 + k * 3 + 1, none⟩ = some (.int .i64 y.number) := (hf.cell hb2 (fun h => h)).trans (q2 1 (by omega))
              have s2 : wr.cell? ⟨b2, o2 + k * 3 + 2, none⟩ = some (.string ⟨y.text.toArray⟩) := (hf.cell hb2 (fun h => h)).trans (q2 2 (by omega))
              have HI := hid hiff
              have HF2 := hid hf
              clear q1 q2 c1 c2 hiff hf htk
              by_cases hxy : x = y
              · have qn := ref_ent_neq x y
                rw [_root_.decide_eq_true hxy, Bool.not_true] at qn
                have HXY := hid hxy
                clear hxy
                go_wp2_with fail
                go_quiet (fail)
                go_wp2_with fail
                exact ⟨⟨k + 1, by omega, by go_num, HI.out.2 HXY.out, HF2.out.drewN _⟩, by simp only [intOf]; omega⟩
              · have qn := ref_ent_neq x y
                rw [_root_.decide_eq_false hxy, Bool.not_false] at qn
                have hd : decide (a = b) = false := _root_.decide_eq_false (fun e => hxy (HI.out.1 (by rw [e])))
                have HD := hid hd
                clear hxy hd
                go_wp2_with fail
                go_quiet (fail)
                go_wp2_with fail
                go_ret
                exact ⟨(congrArg (fun b => Ending.returned (.bool b)) HD.out).symm, (HFW.out.thenNo HF.out).thenNo (HF2.out.drewN _)⟩
            · obtain rfl : k = a.entries.length := by omega
              have hee : a.entries = b.entries := by rw [List.take_length, hel, List.take_length] at htk; exact htk
              have hd : decide (a = b) = true := _root_.decide_eq_true (HE.out HKE.out hee)
              have HD := hid hd
              have HF2 := hid hf
              have hkz : ¬ (a.entries.length : Int) < (a.entries.length : Int) := by omega
              clear hd hee htk hf
              go_wp2_with fail
              go_ret
              exact ⟨(congrArg (fun b => Ending.returned (.bool b)) HD.out).symm, (HFW.out.thenNo HF.out).thenNo HF2.out⟩
end Go.Proofs.YtaejcejfpcjifaaDoor
