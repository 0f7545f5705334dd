/- The scanner of a grammar's text: its state, and its small methods. The scanner's step, place and fault; blanks and comments. -/
import Derived.Test.YtebocnpbiiejmaaDoorRow
import Derived.Test.YtebocnpbiiejmaaDoorAppOwn
import Derived.Test.YtebocnpbiiejmaaDoorGrThm
namespace Go.Proofs.YtebocnpbiiejmaaDoor
open Go.RowKit

/-- a token and its place -/
abbrev Tp := Gr.Tk × Int × Int
def tokV (t : Tp) : List Value := [.int .i64 (t.1.k : Int), .string ⟨t.1.s.toArray⟩, .int .i64 t.2.1, .int .i64 t.2.2]
theorem tok_shp : Shp tokV 4 := ⟨fun _ => rfl, fun x u hu => by
  simp only [tokV, List.mem_cons, List.not_mem_nil, or_false] at hu
  rcases hu with rfl | rfl | rfl | rfl <;> rfl⟩

/-- A scanner lies at block b: the text, how far it is, the slice of its tokens. -/
structure Scn (w : World) (b : Nat) (s : List UInt8) (n : Nat) (v : Value) : Prop where
  c0 : w.cell? ⟨b, 0, none⟩ = some (.string ⟨s.toArray⟩)
  c1 : w.cell? ⟨b, 1, none⟩ = some (.int .i64 (n : Int))
  c2 : ∃ x : Int, w.cell? ⟨b, 2, none⟩ = some (.int .i64 x)
  c3 : ∃ x : Int, w.cell? ⟨b, 3, none⟩ = some (.int .i64 x)
  c4 : w.cell? ⟨b, 4, none⟩ = some v
  c5 : ∃ x : Int, w.cell? ⟨b, 5, none⟩ = some (.int .i64 x)
  c6 : ∃ x : Int, w.cell? ⟨b, 6, none⟩ = some (.int .i64 x)
  c7 : ∃ x : Int, w.cell? ⟨b, 7, none⟩ = some (.int .i64 x)
  f : ∀ j, w.frozen? ⟨b, j, none⟩ = false
namespace Scn
variable {w w1 : World} {b n : Nat} {s : List UInt8} {v : Value}
theorem lt (h : Scn w b s n v) : b < w.heap.size := World.block_lt_of_cell? w _ h.c0
theorem frm {S : Nat → Prop} (h : Scn w b s n v) (hf : Frm S w w1) (hS : ¬ S b) : Scn w1 b s n v := by
  have hc : ∀ j, w1.cell? ⟨b, j, none⟩ = w.cell? ⟨b, j, none⟩ := fun j => hf.cell (p := ⟨b, j, none⟩) h.lt hS
  refine ⟨?_, ?_, ?_, ?_, ?_, ?_, ?_, ?_, fun j => (hf.frozen (p := ⟨b, j, none⟩) h.lt hS).trans (h.f j)⟩
  · rw [hc]; exact h.c0
  · rw [hc]; exact h.c1
  · rw [hc]; exact h.c2
  · rw [hc]; exact h.c3
  · rw [hc]; exact h.c4
  · rw [hc]; exact h.c5
  · rw [hc]; exact h.c6
  · rw [hc]; exact h.c7
theorem set1 (h : Scn w b s n v) (m : Nat) : Scn (w.setCell ⟨b, 1, none⟩ (.int .i64 (m : Int))) b s m v := by
  have hc : ∀ j, j ≠ 1 → (w.setCell ⟨b, 1, none⟩ (.int .i64 (m : Int))).cell? ⟨b, j, none⟩ = w.cell? ⟨b, j, none⟩ := fun j hj => World.cell?_setCell_other _ _ _ _ (by simp)
  refine ⟨?_, World.cell?_setCell_same _ _ _ h.c1, ?_, ?_, ?_, ?_, ?_, ?_, fun j => (World.frozen?_setCell _ _ _ _).trans (h.f j)⟩
  · rw [hc _ (by decide)]; exact h.c0
  · rw [hc _ (by decide)]; exact h.c2
  · rw [hc _ (by decide)]; exact h.c3
  · rw [hc _ (by decide)]; exact h.c4
  · rw [hc _ (by decide)]; exact h.c5
  · rw [hc _ (by decide)]; exact h.c6
  · rw [hc _ (by decide)]; exact h.c7
theorem set2 (h : Scn w b s n v) (x : Int) : Scn (w.setCell ⟨b, 2, none⟩ (.int .i64 x)) b s n v := by
  have hc : ∀ j, j ≠ 2 → (w.setCell ⟨b, 2, none⟩ (.int .i64 x)).cell? ⟨b, j, none⟩ = w.cell? ⟨b, j, none⟩ := fun j hj => World.cell?_setCell_other _ _ _ _ (by simp)
  obtain ⟨y, hy⟩ := h.c2
  refine ⟨?_, ?_, ⟨x, World.cell?_setCell_same _ _ _ hy⟩, ?_, ?_, ?_, ?_, ?_, fun j => (World.frozen?_setCell _ _ _ _).trans (h.f j)⟩
  · rw [hc _ (by decide)]; exact h.c0
  · rw [hc _ (by decide)]; exact h.c1
  · rw [hc _ (by decide)]; exact h.c3
  · rw [hc _ (by decide)]; exact h.c4
  · rw [hc _ (by decide)]; exact h.c5
  · rw [hc _ (by decide)]; exact h.c6
  · rw [hc _ (by decide)]; exact h.c7
theorem set3 (h : Scn w b s n v) (x : Int) : Scn (w.setCell ⟨b, 3, none⟩ (.int .i64 x)) b s n v := by
  have hc : ∀ j, j ≠ 3 → (w.setCell ⟨b, 3, none⟩ (.int .i64 x)).cell? ⟨b, j, none⟩ = w.cell? ⟨b, j, none⟩ := fun j hj => World.cell?_setCell_other _ _ _ _ (by simp)
  obtain ⟨y, hy⟩ := h.c3
  refine ⟨?_, ?_, ?_, ⟨x, World.cell?_setCell_same _ _ _ hy⟩, ?_, ?_, ?_, ?_, fun j => (World.frozen?_setCell _ _ _ _).trans (h.f j)⟩
  · rw [hc _ (by decide)]; exact h.c0
  · rw [hc _ (by decide)]; exact h.c1
  · rw [hc _ (by decide)]; exact h.c2
  · rw [hc _ (by decide)]; exact h.c4
  · rw [hc _ (by decide)]; exact h.c5
  · rw [hc _ (by decide)]; exact h.c6
  · rw [hc _ (by decide)]; exact h.c7
theorem set4 (h : Scn w b s n v) (u : Value) : Scn (w.setCell ⟨b, 4, none⟩ u) b s n u := by
  have hc : ∀ j, j ≠ 4 → (w.setCell ⟨b, 4, none⟩ u).cell? ⟨b, j, none⟩ = w.cell? ⟨b, j, none⟩ := fun j hj => World.cell?_setCell_other _ _ _ _ (by simp)
  refine ⟨?_, ?_, ?_, ?_, World.cell?_setCell_same _ _ _ h.c4, ?_, ?_, ?_, fun j => (World.frozen?_setCell _ _ _ _).trans (h.f j)⟩
  · rw [hc _ (by decide)]; exact h.c0
  · rw [hc _ (by decide)]; exact h.c1
  · rw [hc _ (by decide)]; exact h.c2
  · rw [hc _ (by decide)]; exact h.c3
  · rw [hc _ (by decide)]; exact h.c5
  · rw [hc _ (by decide)]; exact h.c6
  · rw [hc _ (by decide)]; exact h.c7
theorem drew (h : Scn w b s n v) : Scn w.drew b s n v := ⟨h.c0, h.c1, h.c2, h.c3, h.c4, h.c5, h.c6, h.c7, h.f⟩
theorem drewN (h : Scn w b s n v) (k : Nat) : Scn (w.drewN k) b s n v := ⟨h.c0, h.c1, h.c2, h.c3, h.c4, h.c5, h.c6, h.c7, h.f⟩
end Scn
theorem frmOne {w : World} {b j : Nat} {v : Value} : Frm (One b) w (w.setCell ⟨b, j, none⟩ v) := Frm.setCell (p := ⟨b, j, none⟩) (Frm.refl (One b) w) (fun _ => rfl) _

theorem letter_any (c : UInt8) (w : World) :
    Calls Tryd.prog 48 #[.int .u8 (c.toNat : Int)] w fun e w' => e = .returned (.bool (Gr.isLetter c)) ∧ w' = w := by
  have E : Hid (Gr.isLetter c = ((decide (97 ≤ (c.toNat : Int)) && decide ((c.toNat : Int) ≤ 122)) || (decide (65 ≤ (c.toNat : Int)) && decide ((c.toNat : Int) ≤ 90)))) := hid (by
    unfold Gr.isLetter
    have h1 : (97 ≤ c) ↔ (97 ≤ (c.toNat : Int)) := by rw [UInt8.le_iff_toNat_le]; show (97 ≤ c.toNat) ↔ _; omega
    have h2 : (c ≤ 122) ↔ ((c.toNat : Int) ≤ 122) := by rw [UInt8.le_iff_toNat_le]; show (c.toNat ≤ 122) ↔ _; omega
    have h3 : (65 ≤ c) ↔ (65 ≤ (c.toNat : Int)) := by rw [UInt8.le_iff_toNat_le]; show (65 ≤ c.toNat) ↔ _; omega
    have h4 : (c ≤ 90) ↔ ((c.toNat : Int) ≤ 90) := by rw [UInt8.le_iff_toNat_le]; show (c.toNat ≤ 90) ↔ _; omega
    simp only [h1, h2, h3, h4])
  go_enter Tryd.func48, Tryd.ntmps48
  go_wp2_with fail
  all_goals
    go_ret
    refine ⟨?_, rfl⟩
    rw [E.out]
    simp_all
    try omega
theorem more_any (b n : Nat) (s : List UInt8) (v : Value) (w : World) (h : Scn w b s n v) :
    Calls Tryd.prog 20 #[.pointer (some ⟨b, 0, none⟩)] w fun e w' => e = .returned (.bool (decide (n < s.length))) ∧ ∃ m, w' = w.drewN m := by
  have h0 := h.c0
  have h1 := h.c1
  go_enter Tryd.func20, Tryd.ntmps20
  go_wp2_with fail
  go_quiet (fail)
  go_wp2_with fail
  go_ret
  exact ⟨rfl, _, rfl⟩
theorem more_no (b n : Nat) (s : List UInt8) (v : Value) (w : World) (h : Scn w b s n v) (hn : s.length ≤ n) :
    Calls Tryd.prog 20 #[.pointer (some ⟨b, 0, none⟩)] w fun e w' => e = .returned (.bool false) ∧ ∃ m, w' = w.drewN m := by
  have := more_any b n s v w h
  rwa [decide_eq_false (show ¬ n < s.length by omega)] at this
theorem more_yes (b n : Nat) (s : List UInt8) (v : Value) (w : World) (h : Scn w b s n v) (hn : n < s.length) :
    Calls Tryd.prog 20 #[.pointer (some ⟨b, 0, none⟩)] w fun e w' => e = .returned (.bool true) ∧ ∃ m, w' = w.drewN m := by
  have := more_any b n s v w h
  rwa [decide_eq_true hn] at this
end Go.Proofs.YtebocnpbiiejmaaDoor

namespace Go.Proofs.YtebocnpbiiejmaaDoor
open Go.RowKit
theorem wrap_succ {n : Nat} (h : n < 65536) : IntKind.wrap .i64 ((n : Int) + 1) = ((n + 1 : Nat) : Int) := by
  rw [IntWalk.i64_in _ ⟨by omega, by omega⟩]
  omega
theorem step_any (b n : Nat) (s : List UInt8) (v : Value) (w : World) (h : Scn w b s n v) (hn : n < s.length) (hl : s.length ≤ 65536) :
    Calls Tryd.prog 47 #[.pointer (some ⟨b, 0, none⟩)] w fun e w' => e = .returned (.tuple #[]) ∧ Scn w' b s (n + 1) v ∧ Frm (One b) w w' := by
  have h0 := h.c0
  have h1 := h.c1
  obtain ⟨x2, h2⟩ := h.c2
  obtain ⟨x3, h3⟩ := h.c3
  have hf := h.f
  have hw := wrap_succ (n := n) (by omega)
  go_enter Tryd.func47, Tryd.ntmps47
  go_wp2_with fail
  go_quiet (fail)
  go_wp2_with fail
  · go_end0
    exact ⟨rfl, ((((h.drewN nq).set2 _).set3 0).set1 (n + 1)).set3 1, (((((Frm.refl (One b) w).drewN nq).then_ frmOne).then_ frmOne).then_ frmOne).then_ frmOne⟩
  · go_end0
    exact ⟨rfl, ((h.drewN nq).set1 (n + 1)).set3 _, (((Frm.refl (One b) w).drewN nq).then_ frmOne).then_ frmOne⟩
theorem here_any (b n : Nat) (s : List UInt8) (v : Value) (k : Int) (w : World) (h : Scn w b s n v) :
    Calls Tryd.prog 22 #[.pointer (some ⟨b, 0, none⟩), .int .i64 k] w fun e w' => ∃ x y : Int, e = .returned (.agg #[.int .i64 k, .string ByteArray.empty, .int .i64 x, .int .i64 y]) ∧ Frm No w w' := by
  obtain ⟨x2, h2⟩ := h.c2
  obtain ⟨x3, h3⟩ := h.c3
  have hb := h.lt
  go_enter Tryd.func22, Tryd.ntmps22
  go_wp2_with fail
  go_region
  go_wp2_with fail
  refine bodyPost_ret (v := .agg #[.int .i64 k, .string ByteArray.empty, .int .i64 x2, .int .i64 x3]) (by simp [results, Tryd.results22, go_sem]; rfl) rfl ⟨x2, x3, rfl, ?_⟩
  trace_state
  exact ((Frm.refl No w).alloc _).drewN _
/-- how far the scanner is -/
def posOf (b : Nat) (w : World) : Nat := match w.cell? ⟨b, 1, none⟩ with
  | some (.int _ i) => i.toNat
  | _ => 0
theorem Scn.pos {w : World} {b n : Nat} {s : List UInt8} {v : Value} (h : Scn w b s n v) : posOf b w = n := by
  unfold posOf
  rw [h.c1]
  rfl
theorem drop_cons {s : List UInt8} {n : Nat} (h : n < s.length) : s.drop n = s[n] :: s.drop (n + 1) := List.drop_eq_getElem_cons h
set_option maxHeartbeats 2000000 in
theorem skip_any (b n : Nat) (s : List UInt8) (v : Value) (w : World) (h : Scn w b s n v) (hn : n ≤ s.length) (hl : s.length ≤ 65536) :
    Calls Tryd.prog 19 #[.pointer (some ⟨b, 0, none⟩)] w fun e w' => e = .returned (.tuple #[]) ∧ ∃ m, n ≤ m ∧ m ≤ s.length ∧ s.drop m = Gr.skip false (s.drop n) ∧ Scn w' b s m v ∧ Frm (One b) w w' := by
  go_enter Tryd.func19, Tryd.ntmps19
  go_wp2_with fail
  go_loopw [2] (fun _ wr => ∃ m, n ≤ m ∧ m ≤ s.length ∧ Gr.skip false (s.drop m) = Gr.skip false (s.drop n) ∧ Scn wr b s m v ∧ Frm (One b) w wr) (fun _ wr => s.length - posOf b wr)
  case atStart => exact ⟨n, Nat.le_refl _, hn, rfl, h, Frm.refl _ _⟩
  case round =>
    obtain ⟨m, hm1, hm2, hsk, hS, hF⟩ := hrel
    have hbl := h.lt
    obtain ⟨wo, rfl⟩ : ∃ wo : World, wo = wr := ⟨_, rfl⟩
    by_cases hlt : m < s.length
    · obtain ⟨c, hc⟩ : ∃ c, s[m] = c := ⟨_, rfl⟩
      have HD := hid (drop_cons hlt)
      rw [hc] at HD
      have h0 := hS.c0
      have h1 := hS.c1
      go_wp2_with (go_at_call 20; refine (more_yes b m s v _ hS hlt).mono ?_; rintro e w1 ⟨rfl, q, rfl⟩)
      go_quiet (fail)
      by_cases h35 : c = 35
      · have z35 : (((c.toNat : Nat) : Int) == 35) = true := by rw [h35]; rfl
        have HK : Hid (Gr.skip true (s.drop m) = Gr.skip false (s.drop n)) := hid (by
          rw [← hsk, HD.out, h35]
          rfl)
        clear h35
        go_wp2_with fail
        have hS1 : Scn (wo.drewN (q + nq)) b s m v := hS.drewN _
        have hF1 : Frm (One b) w (wo.drewN (q + nq)) := hF.drewN _
        have hp1 : posOf b wo = m := hS.pos
        clear h0 h1
        go_loopw [17] (fun _ wi => ∃ k, m ≤ k ∧ k ≤ s.length ∧ Gr.skip true (s.drop k) = Gr.skip false (s.drop n) ∧ Scn wi b s k v ∧ Frm (One b) w wi) (fun _ wi => s.length - posOf b wi)
        case atStart => exact ⟨m, Nat.le_refl _, hm2, HK.out, hS1, hF1⟩
        case round =>
          obtain ⟨k, hk1, hk2, hsk2, hS2, hF2⟩ := hrel
          have g0 := hS2.c0
          have g1 := hS2.c1
          clear hS1 hF1 hS hF
          by_cases hlk : k < s.length
          · obtain ⟨d, hd⟩ : ∃ d, s[k] = d := ⟨_, rfl⟩
            have HE := hid (drop_cons hlk)
            rw [hd] at HE
            by_cases h10 : d = 10
            · have z10 : (((d.toNat : Nat) : Int) == 10) = true := by rw [h10]; rfl
              have HL : Hid (Gr.skip false (s.drop k) = Gr.skip false (s.drop n)) := hid (by
                rw [← hsk2, HE.out, h10]
                rfl)
              have hne : k ≠ m := by
                rintro rfl
                rw [hc] at hd
                subst hd
                rw [h10] at z35
                revert z35
                decide
              clear h10
              go_wp2_with fail
              go_quiet ((go_at_call 20; refine Calls.quiet_of (more_yes b k s v _ (hS2.drewN _) hlk)))
              go_wp2_with fail
              refine ⟨⟨k, by omega, hk2, HL.out, hS2.drewN _, hF2.drewN _⟩, ?_⟩
              rw [(hS2.drewN nq).pos, hp1]
              omega
            · have z10 : (((d.toNat : Nat) : Int) == 10) = false := by
                rw [beq_eq_false_iff_ne]
                intro e
                exact h10 (UInt8.toNat_inj.mp (by show d.toNat = 10; omega))
              have HL : Hid (Gr.skip true (s.drop (k + 1)) = Gr.skip false (s.drop n)) := hid (by
                rw [← hsk2, HE.out]
                show _ = if d = 10 then _ else _
                rw [if_neg h10])
              clear h10
              go_wp2_with fail
              go_quiet ((go_at_call 20; refine Calls.quiet_of (more_yes b k s v _ (hS2.drewN _) hlk)))
              go_wp2_with (go_at_call 47; refine (step_any b k s v _ (hS2.drewN _) hlk hl).mono ?_; rintro e w2 ⟨rfl, hS3, hF3⟩)
              go_wp2_with fail
              refine ⟨⟨k + 1, by omega, by omega, HL.out, hS3, (hF2.drewN _).then_ hF3⟩, ?_⟩
              rw [hS3.pos, hS2.pos]
              omega
          · have HKE : Hid (k = s.length) := hid (by omega)
            have HL : Hid (Gr.skip false (s.drop k) = Gr.skip false (s.drop n)) := hid (by
              rw [← hsk2, HKE.out, List.drop_length]
              rfl)
            have hne : k ≠ m := by omega
            have hge : s.length ≤ k := by omega
            clear hlk
            go_wp2_with fail
            go_quiet ((go_at_call 20; refine Calls.quiet_of (more_no b k s v _ (hS2.drewN _) hge)))
            go_wp2_with fail
            refine ⟨⟨k, by omega, hk2, HL.out, hS2.drewN _, hF2.drewN _⟩, ?_⟩
            rw [(hS2.drewN nq).pos, hp1]
            omega
      · have z35 : (((c.toNat : Nat) : Int) == 35) = false := by
          rw [beq_eq_false_iff_ne]
          intro e
          exact h35 (UInt8.toNat_inj.mp (by show c.toNat = 35; omega))
        by_cases hbk : Gr.isBlank c = true
        · have HL : Hid (Gr.skip false (s.drop (m + 1)) = Gr.skip false (s.drop n)) := hid (by
            rw [← hsk, HD.out]
            show _ = if c = 35 then _ else if Gr.isBlank c then _ else _
            rw [if_neg h35, if_pos hbk])
          have hp1 : posOf b wo = m := hS.pos
          have h4 : c = 32 ∨ c = 9 ∨ c = 10 ∨ c = 13 := by
            unfold Gr.isBlank at hbk
            simpa [or_assoc] using hbk
          clear hbk h35
          rcases h4 with h4 | h4 | h4 | h4
          · have y32 : (((c.toNat : Nat) : Int) == 32) = true := by rw [h4]; rfl
            clear h4
            go_wp2_with (go_at_call 47; refine (step_any b m s v _ (hS.drewN _) hlt hl).mono ?_; rintro e w2 ⟨rfl, hS3, hF3⟩)
            go_wp2_with fail
            refine ⟨⟨m + 1, by omega, by omega, HL.out, hS3, (hF.drewN _).then_ hF3⟩, ?_⟩
            rw [hS3.pos, hp1]
            omega
          · have y32 : (((c.toNat : Nat) : Int) == 32) = false := by rw [h4]; rfl
            have y9 : (((c.toNat : Nat) : Int) == 9) = true := by rw [h4]; rfl
            clear h4
            go_wp2_with (go_at_call 47; refine (step_any b m s v _ (hS.drewN _) hlt hl).mono ?_; rintro e w2 ⟨rfl, hS3, hF3⟩)
            go_wp2_with fail
            refine ⟨⟨m + 1, by omega, by omega, HL.out, hS3, (hF.drewN _).then_ hF3⟩, ?_⟩
            rw [hS3.pos, hp1]
            omega
          · have y32 : (((c.toNat : Nat) : Int) == 32) = false := by rw [h4]; rfl
            have y9 : (((c.toNat : Nat) : Int) == 9) = false := by rw [h4]; rfl
            have y10 : (((c.toNat : Nat) : Int) == 10) = true := by rw [h4]; rfl
            clear h4
            go_wp2_with (go_at_call 47; refine (step_any b m s v _ (hS.drewN _) hlt hl).mono ?_; rintro e w2 ⟨rfl, hS3, hF3⟩)
            go_wp2_with fail
            refine ⟨⟨m + 1, by omega, by omega, HL.out, hS3, (hF.drewN _).then_ hF3⟩, ?_⟩
            rw [hS3.pos, hp1]
            omega
          · have y32 : (((c.toNat : Nat) : Int) == 32) = false := by rw [h4]; rfl
            have y9 : (((c.toNat : Nat) : Int) == 9) = false := by rw [h4]; rfl
            have y10 : (((c.toNat : Nat) : Int) == 10) = false := by rw [h4]; rfl
            have y13 : (((c.toNat : Nat) : Int) == 13) = true := by rw [h4]; rfl
            clear h4
            go_wp2_with (go_at_call 47; refine (step_any b m s v _ (hS.drewN _) hlt hl).mono ?_; rintro e w2 ⟨rfl, hS3, hF3⟩)
            go_wp2_with fail
            refine ⟨⟨m + 1, by omega, by omega, HL.out, hS3, (hF.drewN _).then_ hF3⟩, ?_⟩
            rw [hS3.pos, hp1]
            omega
        · have HL : Hid (s.drop m = Gr.skip false (s.drop n)) := hid (by
            rw [← hsk, HD.out]
            show _ = if c = 35 then _ else if Gr.isBlank c then _ else _
            rw [if_neg h35, if_neg hbk])
          have h4 : ¬ (c = 32 ∨ c = 9 ∨ c = 10 ∨ c = 13) := by
            unfold Gr.isBlank at hbk
            simpa [or_assoc] using hbk
          have ne : ∀ x : UInt8, c ≠ x → (((c.toNat : Nat) : Int) == ((x.toNat : Nat) : Int)) = false := fun x hx => by
            rw [beq_eq_false_iff_ne]
            intro e
            exact hx (UInt8.toNat_inj.mp (by omega))
          have y32 : (((c.toNat : Nat) : Int) == 32) = false := ne 32 (fun e => h4 (Or.inl e))
          have y9 : (((c.toNat : Nat) : Int) == 9) = false := ne 9 (fun e => h4 (Or.inr (Or.inl e)))
          have y10 : (((c.toNat : Nat) : Int) == 10) = false := ne 10 (fun e => h4 (Or.inr (Or.inr (Or.inl e))))
          have y13 : (((c.toNat : Nat) : Int) == 13) = false := ne 13 (fun e => h4 (Or.inr (Or.inr (Or.inr e))))
          clear ne h4 hbk h35
          go_wp2_with fail
          refine bodyPost_ret (results_none rfl _ _ _) rfl ?_
          exact ⟨rfl, m, hm1, hm2, HL.out, hS.drewN _, hF.drewN _⟩
    · have HKE : Hid (m = s.length) := hid (by omega)
      have HL : Hid (s.drop m = Gr.skip false (s.drop n)) := hid (by
        rw [← hsk, HKE.out, List.drop_length]
        rfl)
      go_wp2_with (go_at_call 20; refine (more_no b m s v _ hS (by omega)).mono ?_; rintro e w1 ⟨rfl, q, rfl⟩)
      go_end0
      exact ⟨rfl, m, hm1, hm2, HL.out, hS.drewN _, hF.drewN _⟩
end Go.Proofs.YtebocnpbiiejmaaDoor
