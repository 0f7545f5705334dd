/- May a nonterminal have a name. -/
import Derived.Test.YtebocnpbiiejmaaDoorTwC
namespace Go.Proofs.YtebocnpbiiejmaaDoor
open Go.RowKit
theorem good_cons (c : UInt8) (r : List UInt8) : Gr.goodName (c :: r) = (Gr.isLetter c && (c :: r).all Gr.inName && decide ((c :: r).length ≤ 32)) := rfl
set_option maxHeartbeats 2000000 in
theorem good_any (s : List UInt8) (w : World) :
    Calls Tryd.prog 35 #[.string ⟨s.toArray⟩] w fun e w' => e = .returned (.bool (Gr.goodName s)) ∧ Frm No w w' := by
  have HL := hid (fun c W => letter_any c W)
  have HN := hid (fun c W => inName_any c W)
  obtain ⟨G, hG⟩ : ∃ G, Gr.goodName s = G := ⟨_, rfl⟩
  rw [hG]
  cases s with
  | nil =>
    go_enter Tryd.func35, Tryd.ntmps35
    go_wp2_with fail
    go_ret
    exact ⟨by rw [← hG]; rfl, Frm.refl _ _⟩
  | cons c r =>
    by_cases hl : 32 < (c :: r).length
    · have hl' : (32 : Int) < (r.length : Int) + 1 := by rw [List.length_cons] at hl; omega
      have HG : Hid (G = false) := hid (by rw [← hG, good_cons, _root_.decide_eq_false (by omega), Bool.and_false])
      clear hl hG
      go_enter Tryd.func35, Tryd.ntmps35
      go_wp2_with fail
      obtain rfl := HG.out
      go_ret
      exact ⟨rfl, Frm.refl _ _⟩
    · have hl' : ¬ (32 : Int) < (r.length : Int) + 1 := by rw [List.length_cons] at hl; omega
      have HG : Hid (G = (Gr.isLetter c && (c :: r).all Gr.inName)) := hid (by rw [← hG, good_cons, _root_.decide_eq_true (by omega), Bool.and_true])
      have HLL := hid hl
      obtain ⟨b, hb⟩ : ∃ b, Gr.isLetter c = b := ⟨_, rfl⟩
      have HB := hid hb
      clear hl hb hG
      go_enter Tryd.func35, Tryd.ntmps35
      go_wp2_with fail
      refine (HL.out c w).mono ?_
      rintro e w1 ⟨rfl, rfl⟩
      rw [HB.out]
      cases b with
      | false =>
        go_wp2_with fail
        obtain rfl : G = false := by rw [HG.out, HB.out]; rfl
        go_ret
        exact ⟨rfl, Frm.refl _ _⟩
      | true =>
        have HG2 : Hid (G = (c :: r).all Gr.inName) := hid (by rw [HG.out, HB.out, Bool.true_and])
        clear HG
        obtain ⟨s, hs⟩ : ∃ s, c :: r = s := ⟨_, rfl⟩
        have hn : (r.length : Int) + 1 = (s.length : Int) := by rw [← hs, List.length_cons]; omega
        go_wp2_with fail
        simp only [hs, hn] at *
        have hlen : s.length ≤ 32 := by have h32 := HLL.out; omega
        clear hs hl' hn HB
        go_loopw [19] (fun i wr => ∃ k : Nat, k ≤ s.length ∧ i = .int .i64 (k : Int) ∧ (s.take k).all Gr.inName = true ∧ Frm No w1 wr)
          (fun i _ => s.length - (intOf i).toNat)
        case atStart => exact ⟨0, by omega, rfl, rfl, Frm.refl _ _⟩
        case round =>
          obtain ⟨k, hk, rfl, hb, hf⟩ := hrel
          have HB := hid hb
          have HF := hid hf
          clear hb
          by_cases hkl : k < s.length
          · have hkz : (k : Int) < (s.length : Int) := by omega
            have hix : (⟨s.toArray⟩ : ByteArray).size = s.length := str_size s
            have HT : Hid ((s.take (k + 1)).all Gr.inName = Gr.inName s[k]) := hid (by
              rw [List.take_succ_eq_append_getElem hkl, List.all_append, HB.out]
              simp)
            have HM : Hid (Gr.inName s[k] = false → s.all Gr.inName = false) := hid (fun e => List.all_eq_false.2 ⟨s[k], List.getElem_mem hkl, by rw [e]; simp⟩)
            obtain ⟨x, hx⟩ : ∃ x, s[k] = x := ⟨_, rfl⟩
            simp only [hx] at HT HM
            clear hf
            go_wp2_with fail
            refine (HN.out x wr).mono ?_
            rintro e w2 ⟨rfl, rfl⟩
            generalize Gr.inName x = q at HT HM ⊢
            cases q with
            | false =>
              obtain rfl : G = false := by rw [HG2.out]; exact HM.out rfl
              go_wp2_with fail
              go_ret
              exact ⟨rfl, HF.out⟩
            | true =>
              go_wp2_with fail
              exact ⟨⟨k + 1, by omega, by go_num, HT.out, HF.out⟩, by simp [intOf]; omega⟩
          · obtain rfl : k = s.length := by omega
            rw [List.take_length] at HB
            have hpz : ¬ (s.length : Int) < (s.length : Int) := by omega
            clear hf
            go_wp2_with fail
            obtain rfl : G = true := by rw [HG2.out, HB.out]
            go_ret
            exact ⟨rfl, HF.out⟩
end Go.Proofs.YtebocnpbiiejmaaDoor
