/- The walk of SessionOnce: a reply is accepted once, and replies to other clients or earlier requests never. -/
import Derived.Test.YtlnmefpndgmenaaDoorSesA
namespace Go.Proofs.YtlnmefpndgmenaaDoor
open Go.RowKit
open Msg

theorem kind3 (x : Int) : ∃ m : Int, (wrap64 (x.tmod 3 + 3)).tmod 3 = m ∧ 0 ≤ m ∧ m ≤ 2 := by
  refine ⟨_, rfl, ?_⟩
  have h1 := Int.lt_tmod_of_pos x (b := 3) (by omega)
  have h2 := Int.tmod_lt_of_pos x (b := 3) (by omega)
  rw [IntWalk.wrap64_in _ (by omega), Int.tmod_eq_emod_of_nonneg (by omega)]
  omega
theorem repM_sml (c n : Int) (t : List UInt8) (ht : t.length ≤ 8192) : Sml (repM c n t) := ⟨by simp [repM], by simp [repM], by simp [repM]; omega, by simp [repM], by simp [repM]⟩
theorem repM_rd (c n : Int) (t : List UInt8) (w : World) : MsR (w.alloc (.cells #[.int .i64 0, .int .i64 0, .int .i64 0, .int .i64 0, .int .i64 0] 3)) (repM c n t) (.slice (some ⟨w.heap.size, 0, none⟩) 5 5) (.slice none 0 0) :=
  ⟨(BC.new w (intsV [0, 0, 0, 0, 0]) 3).rd, ⟨.inl ⟨rfl, none, 0, rfl⟩⟩⟩
/-- A reply's frame, made in the law. -/
theorem rput (c n : Int) (t : List UInt8) (ht : t.length ≤ 8192) (w : World) (hT : Tab w) :
    Calls Tryd.prog 11 #[.agg #[.int .i64 4, .int .i64 0, .int .i64 0, .slice (some ⟨w.heap.size, 0, none⟩) 5 5, .int .i64 0, .int .i64 0, .int .i64 0, .int .i64 0, .int .i64 c, .int .i64 n, .int .i64 0, .string ⟨t.toArray⟩, .bool false, .int .i64 0, .string ⟨#[]⟩, .slice none 0 0], .int .i64 5] (w.alloc (.cells #[.int .i64 0, .int .i64 0, .int .i64 0, .int .i64 0, .int .i64 0] 3)) fun e w' => e = .returned (.string ⟨(Msg.put (repM c n t) 5).toArray⟩) ∧ Frm No w w' :=
  (mput_any (repM c n t) (.slice (some ⟨w.heap.size, 0, none⟩) 5 5) (.slice none 0 0) 5 _ (repM_sml c n t ht) (repM_rd c n t w) (hT.no ((Frm.refl No w).alloc _))).mono fun _e _w' ⟨he, hf⟩ => ⟨he, ((Frm.refl No w).alloc _).thenNo hf⟩

namespace SessionOnce
set_option maxRecDepth 100000 in
set_option maxHeartbeats 8000000 in
theorem walk (l : List UInt8) (_ : l.length ≤ 140737488351232) (client : Int) (_ : -9223372036854775808 ≤ client ∧ client ≤ 9223372036854775807) (w : World) (hT : Tab w) :
    Calls Tryd.prog 6 #[.string ⟨l.toArray⟩, .int .i64 client] w fun e w' => e = .returned (.bool true) ∧ Frm No w w' := by
  obtain ⟨c, hc, hc0, hc2⟩ := kind3 client
  have HT := hid hT
  have HSp := hid (sesspeaks w hT)
  have HNew := hid (fun w1 => new_any c 2 ⟨hc0, hc2⟩ (by omega) w1)
  have hmk : ∀ w, (Instr.makeSlice 23 (.int .i64 5) (.int .i64 5)).run Tryd.prog w = .ok (.slice (some ⟨w.heap.size, 0, none⟩) 5 5) (w.alloc (.cells #[.int .i64 0, .int .i64 0, .int .i64 0, .int .i64 0, .int .i64 0] 3)) := fun _ => by kernel_rfl
  have hs1 : (0 : Int) ≤ min (l.length : Int) 1000 := by omega
  have hs2 : min (l.length : Int) 1000 ≤ (l.length : Int) := by omega
  have hw0 := hT.lt
  clear hT
  go_enter Tryd.func6, Tryd.ntmps6
  go_wp2_with (first | (go_at_call 17; refine HSp.out.mono ?_; rintro e0 w0 ⟨rfl, hf0⟩) | (go_at_call 18; refine (HNew.out _).mono ?_; rintro e1 w1 ⟨b, rfl, hb, bc, hf1⟩))
  have hTl : (List.take (min (l.length : Int) 1000).toNat l).length ≤ 1000 := by rw [List.length_take]; omega
  have hF1 : Frm No w w1 := hf0.thenNo hf1
  have hbw : w.heap.size ≤ b := Nat.le_trans hf0.size hb
  generalize List.take (min (l.length : Int) 1000).toNat l = T at *
  have hF1' := hid hF1
  have hBC := hid bc
  clear hf0 hf1 hb hs1 hs2 hc HSp HNew hF1 bc
  go_loopw [6, 7, 8, 9, 10, 11, 12, 13, 14, 15, 16, 17] (fun i _ _ _ _ _ _ _ _ _ _ _ wr => ∃ (k : Nat) (t : List UInt8) (q : Int), 1 ≤ k ∧ k ≤ 4 ∧ i = .int .i64 (k : Int) ∧ BC wr b (sesL c 5 ((k : Int) - 1) 0 t false q) ∧ Frm No w wr)
    (fun i _ _ _ _ _ _ _ _ _ _ _ _ => 4 - (intOf i).toNat)
  case atStart => exact ⟨1, [], 0, by omega, by omega, rfl, hBC.out, hF1'.out⟩
  case round =>
    obtain ⟨k, t, q, hk1, hk4, rfl, bk, hfk⟩ := hrel
    obtain ⟨wo, rfl⟩ : ∃ wo : World, wo = wr := ⟨_, rfl⟩
    by_cases hk : k < 4
    · have hkz : (k : Int) ≤ 3 := by omega
      have HAsk := hid (ask_any b c 5 ((k : Int) - 1) t q T wo bk (.inr rfl) (by omega) (by omega) (HT.out.no hfk) (by omega))
      have e1 : (k : Int) - 1 + 1 = (k : Int) := by omega
      rw [e1] at HAsk
      have hFk := hid hfk
      clear bk hfk e1
      go_wp2_with (go_at_call 19; refine HAsk.out.mono ?_; rintro e2 w2 ⟨g, rfl, hg, hg1, bc2, hf2⟩)
      have hF2 := hid (hFk.out.trans hf2 (fun _ _ h => h) (fun i hi e => by have e : i = b := e; omega))
      have hB2 := hid bc2
      clear HAsk hg hg1 bc2 hf2 hFk
      go_loopw [9, 10, 11, 12] (fun n _ _ _ wr => ∃ j : Nat, j ≤ 5 ∧ n = .int .i64 (j : Int) ∧ BC wr b (sesL c 5 (k : Int) 0 T true 0) ∧ Frm No w wr)
        (fun n _ _ _ _ => 5 - (intOf n).toNat)
      case atStart => exact ⟨0, by omega, rfl, hB2.out, hF2.out⟩
      case round =>
        obtain ⟨j, hj5, rfl, bj, hfj⟩ := hrel
        obtain ⟨wp, rfl⟩ : ∃ wp : World, wp = wr := ⟨_, rfl⟩
        clear hB2 hF2
        by_cases hj : j < 5
        · have hjz : (j : Int) ≤ 4 := by omega
          have hBj := hid bj
          have hFj := hid hfj
          clear bj hfj
          go_wp2_with fail
          go_loopw [10, 11, 12] (fun d _ _ wr => ∃ i : Nat, i ≤ 3 ∧ d = .int .i64 (i : Int) ∧ BC wr b (sesL c 5 (k : Int) 0 T true 0) ∧ Frm No w wr)
            (fun d _ _ _ => 3 - (intOf d).toNat)
          case atStart => exact ⟨0, by omega, rfl, hBj.out, hFj.out⟩
          case round =>
            obtain ⟨i, hi3, rfl, bi, hfi⟩ := hrel
            clear hBj hFj
            by_cases hi : i < 3
            · have hiz : (i : Int) < 3 := by omega
              have hBi := hid bi
              have hFi := hid hfi
              have HPut := hid (rput (i : Int) (j : Int) [110, 111] (by simp) wr (HT.out.no hfi))
              have HRc := hid (fun (hne : ¬ ((i : Int) = c ∧ (j : Int) = (k : Int))) (hj0 : j ≠ 0) w3 (b3 : BC w3 b (sesL c 5 (k : Int) 0 T true 0)) (hT3 : Tab w3) => recv_other b c (k : Int) 0 T 0 (i : Int) (j : Int) [110, 111] w3 b3 (by omega) (by omega) (by simp) hne hT3)
              have hbl : b < wr.heap.size := World.block_lt_of_cell? wr ⟨b, 0, none⟩ (bi.cell 0)
              clear bi hfi
              by_cases hj0 : j = 0
              · subst hj0
                have e1 : ((0 : Int) == (k : Int)) = false := by simp; omega
                clear HPut HRc
                go_wp2_with fail
                exact ⟨⟨i + 1, by omega, by go_num, hBi.out, hFi.out⟩, by simp [intOf]; omega⟩
              · have e0 : ((j : Int) == 0) = false := by simp; omega
                by_cases hjk : j = k
                · subst hjk
                  by_cases hic : (i : Int) = c
                  · subst hic
                    clear HPut HRc
                    go_wp2_with fail
                    exact ⟨⟨i + 1, by omega, by go_num, hBi.out, hFi.out⟩, by simp [intOf]; omega⟩
                  · have e1 : ((i : Int) == c) = false := by simpa using hic
                    replace HRc := hid (HRc.out (by omega) hj0)
                    clear hic
                    go_wp2_with (first | (go_at_call 11; refine HPut.out.mono ?_; rintro e3 w3 ⟨rfl, hf3⟩) | (go_at_call 20; refine (HRc.out w3 (hBi.out.frm hbl hf3 (fun h => h)) (HT.out.no (hFi.out.thenNo hf3))).mono ?_; rintro e4 w4 ⟨rfl, hf4⟩))
                    exact ⟨⟨i + 1, by omega, by go_num, (hBi.out.frm hbl hf3 (fun h => h)).frm (Nat.lt_of_lt_of_le hbl hf3.size) hf4 (fun h => h), (hFi.out.thenNo hf3).thenNo hf4⟩, by simp [intOf]; omega⟩
                · have e1 : ((j : Int) == (k : Int)) = false := by simp; omega
                  replace HRc := hid (HRc.out (by omega) hj0)
                  clear hjk
                  go_wp2_with (first | (go_at_call 11; refine HPut.out.mono ?_; rintro e3 w3 ⟨rfl, hf3⟩) | (go_at_call 20; refine (HRc.out w3 (hBi.out.frm hbl hf3 (fun h => h)) (HT.out.no (hFi.out.thenNo hf3))).mono ?_; rintro e4 w4 ⟨rfl, hf4⟩))
                  exact ⟨⟨i + 1, by omega, by go_num, (hBi.out.frm hbl hf3 (fun h => h)).frm (Nat.lt_of_lt_of_le hbl hf3.size) hf4 (fun h => h), (hFi.out.thenNo hf3).thenNo hf4⟩, by simp [intOf]; omega⟩
            · have hiz : ¬ (i : Int) < 3 := by omega
              have hBi := hid bi
              have hFi := hid hfi
              clear bi hfi
              go_wp2_with fail
              exact ⟨⟨j + 1, by omega, by go_num, hBi.out, hFi.out⟩, by simp [intOf]; omega⟩
        · have hjz : ¬ (j : Int) ≤ 4 := by omega
          have HPut := hid (rput c (k : Int) T (by omega) wp (HT.out.no hfj))
          have HR1 := hid (fun w3 (b3 : BC w3 b (sesL c 5 (k : Int) 0 T true 0)) (hT3 : Tab w3) => recv_mine b c (k : Int) 0 T 0 T w3 b3 ⟨hc0, hc2⟩ (by omega) (by omega) hT3)
          have HR2 := hid (fun w4 f (b4 : BC w4 b (sesL c 5 (k : Int) (max 0 0) T false 0)) => recv_idle b c 5 (k : Int) (max 0 0) T 0 f w4 b4)
          have hBj := hid bj
          have hFj := hid hfj
          have hbl : b < wp.heap.size := World.block_lt_of_cell? wp ⟨b, 0, none⟩ (bj.cell 0)
          generalize Msg.put (repM c (k : Int) T) 5 = F at *
          clear bj hfj
          go_wp2_with (first | (go_at_call 11; refine HPut.out.mono ?_; rintro e3 w3 ⟨rfl, hf3⟩; have b3 := hid (hBj.out.frm hbl hf3 (fun h => h)); have F3 := hid (hFj.out.thenNo hf3)) | (go_at_call 20; refine (HR2.out w4 F b4.out).mono ?_; rintro e5 w5 ⟨rfl, hf5⟩) | (go_at_call 20; refine (HR1.out w3 b3.out (HT.out.no F3.out)).mono ?_; rintro e4 w4 ⟨rfl, b4', hf4⟩; have b4 := hid b4'; clear b4'))
          refine ⟨⟨k + 1, T, 0, by omega, by omega, by go_num, ?_, (F3.out.trans hf4 (fun _ _ h => h) (fun i hi e => by have e : i = b := e; omega)).thenNo hf5⟩, by simp [intOf]; omega⟩
          have e1 : ((k + 1 : Nat) : Int) - 1 = (k : Int) := by omega
          rw [e1]
          exact b4.out.frm (Nat.lt_of_lt_of_le (Nat.lt_of_lt_of_le hbl hf3.size) hf4.size) hf5 (fun h => h)
    · have hkz : ¬ (k : Int) ≤ 3 := by omega
      have hFk := hid hfk
      clear bk hfk
      go_wp2_with fail
      go_ret
      exact ⟨rfl, hFk.out⟩
end SessionOnce
end Go.Proofs.YtlnmefpndgmenaaDoor
