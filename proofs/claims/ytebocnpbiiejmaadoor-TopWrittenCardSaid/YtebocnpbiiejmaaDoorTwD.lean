/- The scanner's escapes. -/
import Derived.Test.YtebocnpbiiejmaaDoorTwC
import Derived.Test.YtebocnpbiiejmaaDoorGrTok
import Derived.Handy
namespace Go.Proofs.YtebocnpbiiejmaaDoor
open Go.RowKit
theorem byte_ne {c x : UInt8} (h : c ≠ x) : (((c.toNat : Nat) : Int) == ((x.toNat : Nat) : Int)) = false := by
  rw [beq_eq_false_iff_ne]
  intro e
  exact h (UInt8.toNat_inj.mp (by omega))
theorem idx_hex (c : UInt8) (w : World) : Calls Tryd.prog 51 #[.string ⟨#[48, 49, 50, 51, 52, 53, 54, 55, 56, 57, 97, 98, 99, 100, 101, 102]⟩, .int .u8 (c.toNat : Int)] w fun e w' => e = .returned (.int .i64 (Lib.indexByte Gr.hexes c)) ∧ w' = w := by
  have h := Tryd.strings_IndexByte ⟨#[48, 49, 50, 51, 52, 53, 54, 55, 56, 57, 97, 98, 99, 100, 101, 102]⟩ (c.toNat : Int) w
  have e : ((c.toNat : Int)).toNat.toUInt8 = c := by
    show (c.toNat).toUInt8 = c
    exact UInt8.ofNat_toNat
  rw [e] at h
  exact h
theorem hex_all : ((List.range 16).all fun a => (List.range 16).all fun b => bits BinOp.or IntKind.i64 (wrap64 (bits BinOp.or IntKind.i64 0 ((a : Nat) : Int) * 16)) ((b : Nat) : Int) % 256 == ((UInt8.ofNat (16 * a + b)).toNat : Int)) = true := by kernel_rfl
theorem hex_val {a b : Nat} (ha : a < 16) (hb : b < 16) : bits BinOp.or IntKind.i64 (wrap64 (bits BinOp.or IntKind.i64 0 ((a : Nat) : Int) * 16)) ((b : Nat) : Int) % 256 = ((UInt8.ofNat (16 * a + b)).toNat : Int) :=
  beq_iff_eq.mp (List.all_eq_true.mp (List.all_eq_true.mp hex_all a (List.mem_range.mpr ha)) b (List.mem_range.mpr hb))
theorem escape_nil (b n : Nat) (s : List UInt8) (v : Value) (w : World) (h : Scn w b s n v) (hn : n = s.length) :
    Calls Tryd.prog 69 #[.pointer (some ⟨b, 0, none⟩)] w fun e w' => e = .returned (.tuple #[.int .u8 0, .bool false]) ∧ Scn w' b s n v ∧ Frm (One b) w w' := by
  have HK : Hid (s.length ≤ n) := hid (by omega)
  clear hn
  go_enter Tryd.func69, Tryd.ntmps69
  go_wp2_with (go_at_call 20; refine (more_no b n s v _ h HK.out).mono ?_; rintro e w1 ⟨rfl, q, rfl⟩)
  exact bodyPost_ret (results_tmp2 rfl _ _ _) rfl ⟨rfl, h.drewN _, (Frm.refl _ _).drewN _⟩
theorem escape_bs (b n : Nat) (s : List UInt8) (v : Value) (w : World) (h : Scn w b s n v) (hl : s.length ≤ 65536) (hlt : n < s.length) (c : UInt8) (hc : s[n] = c) (hcv : c = 92) :
    Calls Tryd.prog 69 #[.pointer (some ⟨b, 0, none⟩)] w fun e w' => e = .returned (.tuple #[.int .u8 (c.toNat : Int), .bool true]) ∧ Scn w' b s (n + 1) v ∧ Frm (One b) w w' := by
  have h0 := h.c0
  have h1 := h.c1
  have z92 : (((c.toNat : Nat) : Int) == 92) = true := by rw [hcv]; rfl
  clear hcv
  go_enter Tryd.func69, Tryd.ntmps69
  go_wp2_with (go_at_call 20; refine (more_yes b n s v _ h hlt).mono ?_; rintro e w1 ⟨rfl, q, rfl⟩)
  go_quiet (fail)
  go_wp2_with (go_at_call 47; refine (step_any b n s v _ (h.drewN _) hlt hl).mono ?_; rintro e w2 ⟨rfl, hS3, hF3⟩)
  exact bodyPost_ret (results_tmp2 rfl _ _ _) rfl ⟨rfl, hS3, ((Frm.refl _ _).drewN _).then_ hF3⟩
theorem escape_sq (b n : Nat) (s : List UInt8) (v : Value) (w : World) (h : Scn w b s n v) (hl : s.length ≤ 65536) (hlt : n < s.length) (c : UInt8) (hc : s[n] = c) (hcv : c = 39) :
    Calls Tryd.prog 69 #[.pointer (some ⟨b, 0, none⟩)] w fun e w' => e = .returned (.tuple #[.int .u8 (c.toNat : Int), .bool true]) ∧ Scn w' b s (n + 1) v ∧ Frm (One b) w w' := by
  have h0 := h.c0
  have h1 := h.c1
  have z92 : (((c.toNat : Nat) : Int) == 92) = false := by rw [hcv]; rfl
  have z39 : (((c.toNat : Nat) : Int) == 39) = true := by rw [hcv]; rfl
  clear hcv
  go_enter Tryd.func69, Tryd.ntmps69
  go_wp2_with (go_at_call 20; refine (more_yes b n s v _ h hlt).mono ?_; rintro e w1 ⟨rfl, q, rfl⟩)
  go_quiet (fail)
  go_wp2_with (go_at_call 47; refine (step_any b n s v _ (h.drewN _) hlt hl).mono ?_; rintro e w2 ⟨rfl, hS3, hF3⟩)
  exact bodyPost_ret (results_tmp2 rfl _ _ _) rfl ⟨rfl, hS3, ((Frm.refl _ _).drewN _).then_ hF3⟩
theorem escape_dq (b n : Nat) (s : List UInt8) (v : Value) (w : World) (h : Scn w b s n v) (hl : s.length ≤ 65536) (hlt : n < s.length) (c : UInt8) (hc : s[n] = c) (hcv : c = 34) :
    Calls Tryd.prog 69 #[.pointer (some ⟨b, 0, none⟩)] w fun e w' => e = .returned (.tuple #[.int .u8 (c.toNat : Int), .bool true]) ∧ Scn w' b s (n + 1) v ∧ Frm (One b) w w' := by
  have h0 := h.c0
  have h1 := h.c1
  have z92 : (((c.toNat : Nat) : Int) == 92) = false := by rw [hcv]; rfl
  have z39 : (((c.toNat : Nat) : Int) == 39) = false := by rw [hcv]; rfl
  have z34 : (((c.toNat : Nat) : Int) == 34) = true := by rw [hcv]; rfl
  clear hcv
  go_enter Tryd.func69, Tryd.ntmps69
  go_wp2_with (go_at_call 20; refine (more_yes b n s v _ h hlt).mono ?_; rintro e w1 ⟨rfl, q, rfl⟩)
  go_quiet (fail)
  go_wp2_with (go_at_call 47; refine (step_any b n s v _ (h.drewN _) hlt hl).mono ?_; rintro e w2 ⟨rfl, hS3, hF3⟩)
  exact bodyPost_ret (results_tmp2 rfl _ _ _) rfl ⟨rfl, hS3, ((Frm.refl _ _).drewN _).then_ hF3⟩
theorem escape_n (b n : Nat) (s : List UInt8) (v : Value) (w : World) (h : Scn w b s n v) (hl : s.length ≤ 65536) (hlt : n < s.length) (c : UInt8) (hc : s[n] = c) (hcv : c = 110) :
    Calls Tryd.prog 69 #[.pointer (some ⟨b, 0, none⟩)] w fun e w' => e = .returned (.tuple #[.int .u8 10, .bool true]) ∧ Scn w' b s (n + 1) v ∧ Frm (One b) w w' := by
  have h0 := h.c0
  have h1 := h.c1
  have z92 : (((c.toNat : Nat) : Int) == 92) = false := by rw [hcv]; rfl
  have z39 : (((c.toNat : Nat) : Int) == 39) = false := by rw [hcv]; rfl
  have z34 : (((c.toNat : Nat) : Int) == 34) = false := by rw [hcv]; rfl
  have z110 : (((c.toNat : Nat) : Int) == 110) = true := by rw [hcv]; rfl
  clear hcv
  go_enter Tryd.func69, Tryd.ntmps69
  go_wp2_with (go_at_call 20; refine (more_yes b n s v _ h hlt).mono ?_; rintro e w1 ⟨rfl, q, rfl⟩)
  go_quiet (fail)
  go_wp2_with (go_at_call 47; refine (step_any b n s v _ (h.drewN _) hlt hl).mono ?_; rintro e w2 ⟨rfl, hS3, hF3⟩)
  exact bodyPost_ret (results_tmp2 rfl _ _ _) rfl ⟨rfl, hS3, ((Frm.refl _ _).drewN _).then_ hF3⟩
theorem escape_t (b n : Nat) (s : List UInt8) (v : Value) (w : World) (h : Scn w b s n v) (hl : s.length ≤ 65536) (hlt : n < s.length) (c : UInt8) (hc : s[n] = c) (hcv : c = 116) :
    Calls Tryd.prog 69 #[.pointer (some ⟨b, 0, none⟩)] w fun e w' => e = .returned (.tuple #[.int .u8 9, .bool true]) ∧ Scn w' b s (n + 1) v ∧ Frm (One b) w w' := by
  have h0 := h.c0
  have h1 := h.c1
  have z92 : (((c.toNat : Nat) : Int) == 92) = false := by rw [hcv]; rfl
  have z39 : (((c.toNat : Nat) : Int) == 39) = false := by rw [hcv]; rfl
  have z34 : (((c.toNat : Nat) : Int) == 34) = false := by rw [hcv]; rfl
  have z110 : (((c.toNat : Nat) : Int) == 110) = false := by rw [hcv]; rfl
  have z116 : (((c.toNat : Nat) : Int) == 116) = true := by rw [hcv]; rfl
  clear hcv
  go_enter Tryd.func69, Tryd.ntmps69
  go_wp2_with (go_at_call 20; refine (more_yes b n s v _ h hlt).mono ?_; rintro e w1 ⟨rfl, q, rfl⟩)
  go_quiet (fail)
  go_wp2_with (go_at_call 47; refine (step_any b n s v _ (h.drewN _) hlt hl).mono ?_; rintro e w2 ⟨rfl, hS3, hF3⟩)
  exact bodyPost_ret (results_tmp2 rfl _ _ _) rfl ⟨rfl, hS3, ((Frm.refl _ _).drewN _).then_ hF3⟩
theorem escape_other (b n : Nat) (s : List UInt8) (v : Value) (w : World) (h : Scn w b s n v) (hlt : n < s.length) (c : UInt8) (hc : s[n] = c) (hno : c ∉ [92, 39, 34, 110, 116, 120]) :
    Calls Tryd.prog 69 #[.pointer (some ⟨b, 0, none⟩)] w fun e w' => e = .returned (.tuple #[.int .u8 0, .bool false]) ∧ Scn w' b s n v ∧ Frm (One b) w w' := by
  have h0 := h.c0
  have h1 := h.c1
  have z92 : (((c.toNat : Nat) : Int) == 92) = false := byte_ne (x := 92) (fun e => hno (by rw [e]; simp))
  have z39 : (((c.toNat : Nat) : Int) == 39) = false := byte_ne (x := 39) (fun e => hno (by rw [e]; simp))
  have z34 : (((c.toNat : Nat) : Int) == 34) = false := byte_ne (x := 34) (fun e => hno (by rw [e]; simp))
  have z110 : (((c.toNat : Nat) : Int) == 110) = false := byte_ne (x := 110) (fun e => hno (by rw [e]; simp))
  have z116 : (((c.toNat : Nat) : Int) == 116) = false := byte_ne (x := 116) (fun e => hno (by rw [e]; simp))
  have z120 : (((c.toNat : Nat) : Int) == 120) = false := byte_ne (x := 120) (fun e => hno (by rw [e]; simp))
  clear hno
  go_enter Tryd.func69, Tryd.ntmps69
  go_wp2_with (go_at_call 20; refine (more_yes b n s v _ h hlt).mono ?_; rintro e w1 ⟨rfl, q, rfl⟩)
  go_quiet (fail)
  go_wp2_with fail
  exact bodyPost_ret (results_tmp2 rfl _ _ _) rfl ⟨rfl, h.drewN _, (Frm.refl _ _).drewN _⟩
set_option maxHeartbeats 1000000 in
theorem escape_hexA (b n : Nat) (s : List UInt8) (v : Value) (w : World) (h : Scn w b s n v) (hl : s.length ≤ 65536) (hlt : n < s.length) (c : UInt8) (hc : s[n] = c) (hcv : c = 120) (p1 : Nat) (hp1 : n + 1 = p1) (he : s.length = p1) :
    Calls Tryd.prog 69 #[.pointer (some ⟨b, 0, none⟩)] w fun e w' => e = .returned (.tuple #[.int .u8 0, .bool false]) ∧ (∃ m, m ≤ s.length ∧ Scn w' b s m v) ∧ Frm (One b) w w' := by
  have h0 := h.c0
  have h1 := h.c1
  have z92 : (((c.toNat : Nat) : Int) == 92) = false := by rw [hcv]; rfl
  have z39 : (((c.toNat : Nat) : Int) == 39) = false := by rw [hcv]; rfl
  have z34 : (((c.toNat : Nat) : Int) == 34) = false := by rw [hcv]; rfl
  have z110 : (((c.toNat : Nat) : Int) == 110) = false := by rw [hcv]; rfl
  have z116 : (((c.toNat : Nat) : Int) == 116) = false := by rw [hcv]; rfl
  have z120 : (((c.toNat : Nat) : Int) == 120) = true := by rw [hcv]; rfl
  clear hcv
  have HP1 := hid hp1
  clear hp1
  have HE : Hid (s.length ≤ p1) := hid (by omega)
  have HM : Hid (p1 ≤ s.length) := hid (by omega)
  clear he
  go_enter Tryd.func69, Tryd.ntmps69
  go_wp2_with (go_at_call 20; refine (more_yes b n s v _ h hlt).mono ?_; rintro e w1 ⟨rfl, q, rfl⟩)
  go_quiet (fail)
  go_wp2_with fail
  refine (step_any b n s v _ (h.drewN _) hlt hl).mono ?_
  rintro e w2 ⟨rfl, hT0, hF0⟩
  rw [HP1.out] at hT0
  have hG0 := ((Frm.refl (One b) w).drewN _).then_ hF0
  clear h0 h1 hF0
  go_wp2_with fail
  refine wp_loop_rounds 3 ?_
  rw [rounds_succ]
  go_wp2_with fail
  refine (more_no b p1 s v _ hT0 HE.out).mono ?_
  rintro e W0 ⟨rfl, q0, rfl⟩
  go_wp2_with fail
  exact bodyPost_ret (results_tmp2 rfl _ _ _) rfl ⟨rfl, ⟨_, HM.out, hT0.drewN _⟩, hG0.drewN _⟩
set_option maxHeartbeats 1000000 in
theorem escape_hexB (b n : Nat) (s : List UInt8) (v : Value) (w : World) (h : Scn w b s n v) (hl : s.length ≤ 65536) (hlt : n < s.length) (c : UInt8) (hc : s[n] = c) (hcv : c = 120) (p1 : Nat) (hp1 : n + 1 = p1) (hl0 : p1 < s.length) (x0 : UInt8) (hx0 : s[p1] = x0) (hv0 : Gr.hexv x0 = none) :
    Calls Tryd.prog 69 #[.pointer (some ⟨b, 0, none⟩)] w fun e w' => e = .returned (.tuple #[.int .u8 0, .bool false]) ∧ (∃ m, m ≤ s.length ∧ Scn w' b s m v) ∧ Frm (One b) w w' := by
  have h0 := h.c0
  have h1 := h.c1
  have z92 : (((c.toNat : Nat) : Int) == 92) = false := by rw [hcv]; rfl
  have z39 : (((c.toNat : Nat) : Int) == 39) = false := by rw [hcv]; rfl
  have z34 : (((c.toNat : Nat) : Int) == 34) = false := by rw [hcv]; rfl
  have z110 : (((c.toNat : Nat) : Int) == 110) = false := by rw [hcv]; rfl
  have z116 : (((c.toNat : Nat) : Int) == 116) = false := by rw [hcv]; rfl
  have z120 : (((c.toNat : Nat) : Int) == 120) = true := by rw [hcv]; rfl
  clear hcv
  have HP1 := hid hp1
  clear hp1
  have hi0 := Gr.hexv_none hv0
  have HM : Hid (p1 ≤ s.length) := hid (by omega)
  clear hv0
  go_enter Tryd.func69, Tryd.ntmps69
  go_wp2_with (go_at_call 20; refine (more_yes b n s v _ h hlt).mono ?_; rintro e w1 ⟨rfl, q, rfl⟩)
  go_quiet (fail)
  go_wp2_with fail
  refine (step_any b n s v _ (h.drewN _) hlt hl).mono ?_
  rintro e w2 ⟨rfl, hT0, hF0⟩
  rw [HP1.out] at hT0
  have hG0 := ((Frm.refl (One b) w).drewN _).then_ hF0
  clear h0 h1 hF0
  go_wp2_with fail
  refine wp_loop_rounds 3 ?_
  rw [rounds_succ]
  go_wp2_with fail
  refine (more_yes b p1 s v _ hT0 hl0).mono ?_
  rintro e W0 ⟨rfl, q0, rfl⟩
  have g0 := hT0.c0
  have g1 := hT0.c1
  go_wp2_with fail
  go_quiet ((go_at_call 51; exact (idx_hex _ _).mono fun _ _ ⟨a, b⟩ => ⟨a, _, b⟩))
  go_wp2_with fail
  exact bodyPost_ret (results_tmp2 rfl _ _ _) rfl ⟨rfl, ⟨_, HM.out, hT0.drewN _⟩, hG0.drewN _⟩
set_option maxHeartbeats 1000000 in
theorem escape_hexC (b n : Nat) (s : List UInt8) (v : Value) (w : World) (h : Scn w b s n v) (hl : s.length ≤ 65536) (hlt : n < s.length) (c : UInt8) (hc : s[n] = c) (hcv : c = 120) (p1 : Nat) (hp1 : n + 1 = p1) (hl0 : p1 < s.length) (x0 : UInt8) (hx0 : s[p1] = x0) (m0 : Nat) (hv0 : Gr.hexv x0 = some m0) (p2 : Nat) (hp2 : p1 + 1 = p2) (he : s.length = p2) :
    Calls Tryd.prog 69 #[.pointer (some ⟨b, 0, none⟩)] w fun e w' => e = .returned (.tuple #[.int .u8 0, .bool false]) ∧ (∃ m, m ≤ s.length ∧ Scn w' b s m v) ∧ Frm (One b) w w' := by
  have h0 := h.c0
  have h1 := h.c1
  have z92 : (((c.toNat : Nat) : Int) == 92) = false := by rw [hcv]; rfl
  have z39 : (((c.toNat : Nat) : Int) == 39) = false := by rw [hcv]; rfl
  have z34 : (((c.toNat : Nat) : Int) == 34) = false := by rw [hcv]; rfl
  have z110 : (((c.toNat : Nat) : Int) == 110) = false := by rw [hcv]; rfl
  have z116 : (((c.toNat : Nat) : Int) == 116) = false := by rw [hcv]; rfl
  have z120 : (((c.toNat : Nat) : Int) == 120) = true := by rw [hcv]; rfl
  clear hcv
  have HP1 := hid hp1
  clear hp1
  have hi0 := Gr.hexv_some hv0
  have HB0 := hid (Gr.hexv_lt hv0)
  clear hv0
  have HP2 := hid hp2
  clear hp2
  have HE : Hid (s.length ≤ p2) := hid (by omega)
  have HM : Hid (p2 ≤ s.length) := hid (by omega)
  clear he
  go_enter Tryd.func69, Tryd.ntmps69
  go_wp2_with (go_at_call 20; refine (more_yes b n s v _ h hlt).mono ?_; rintro e w1 ⟨rfl, q, rfl⟩)
  go_quiet (fail)
  go_wp2_with fail
  refine (step_any b n s v _ (h.drewN _) hlt hl).mono ?_
  rintro e w2 ⟨rfl, hT0, hF0⟩
  rw [HP1.out] at hT0
  have hG0 := ((Frm.refl (One b) w).drewN _).then_ hF0
  clear h0 h1 hF0
  go_wp2_with fail
  refine wp_loop_rounds 3 ?_
  rw [rounds_succ]
  go_wp2_with fail
  refine (more_yes b p1 s v _ hT0 hl0).mono ?_
  rintro e W0 ⟨rfl, q0, rfl⟩
  have g0 := hT0.c0
  have g1 := hT0.c1
  go_wp2_with fail
  go_quiet ((go_at_call 51; exact (idx_hex _ _).mono fun _ _ ⟨a, b⟩ => ⟨a, _, b⟩))
  go_wp2_with fail
  refine (step_any b p1 s v _ (hT0.drewN _) hl0 hl).mono ?_
  rintro e V0 ⟨rfl, hT1, hF1⟩
  have hG1 := (hG0.drewN _).then_ hF1
  clear g0 g1 hF1
  rw [HP2.out] at hT1
  go_wp2_with fail
  rw [rounds_succ]
  go_wp2_with fail
  refine (more_no b p2 s v _ hT1 HE.out).mono ?_
  rintro e W1 ⟨rfl, q1, rfl⟩
  go_wp2_with fail
  exact bodyPost_ret (results_tmp2 rfl _ _ _) rfl ⟨rfl, ⟨_, HM.out, hT1.drewN _⟩, hG1.drewN _⟩
set_option maxHeartbeats 1000000 in
theorem escape_hexD (b n : Nat) (s : List UInt8) (v : Value) (w : World) (h : Scn w b s n v) (hl : s.length ≤ 65536) (hlt : n < s.length) (c : UInt8) (hc : s[n] = c) (hcv : c = 120) (p1 : Nat) (hp1 : n + 1 = p1) (hl0 : p1 < s.length) (x0 : UInt8) (hx0 : s[p1] = x0) (m0 : Nat) (hv0 : Gr.hexv x0 = some m0) (p2 : Nat) (hp2 : p1 + 1 = p2) (hl1 : p2 < s.length) (x1 : UInt8) (hx1 : s[p2] = x1) (hv1 : Gr.hexv x1 = none) :
    Calls Tryd.prog 69 #[.pointer (some ⟨b, 0, none⟩)] w fun e w' => e = .returned (.tuple #[.int .u8 0, .bool false]) ∧ (∃ m, m ≤ s.length ∧ Scn w' b s m v) ∧ Frm (One b) w w' := by
  have h0 := h.c0
  have h1 := h.c1
  have z92 : (((c.toNat : Nat) : Int) == 92) = false := by rw [hcv]; rfl
  have z39 : (((c.toNat : Nat) : Int) == 39) = false := by rw [hcv]; rfl
  have z34 : (((c.toNat : Nat) : Int) == 34) = false := by rw [hcv]; rfl
  have z110 : (((c.toNat : Nat) : Int) == 110) = false := by rw [hcv]; rfl
  have z116 : (((c.toNat : Nat) : Int) == 116) = false := by rw [hcv]; rfl
  have z120 : (((c.toNat : Nat) : Int) == 120) = true := by rw [hcv]; rfl
  clear hcv
  have HP1 := hid hp1
  clear hp1
  have hi0 := Gr.hexv_some hv0
  have HB0 := hid (Gr.hexv_lt hv0)
  clear hv0
  have HP2 := hid hp2
  clear hp2
  have hi1 := Gr.hexv_none hv1
  have HM : Hid (p2 ≤ s.length) := hid (by omega)
  clear hv1
  go_enter Tryd.func69, Tryd.ntmps69
  go_wp2_with (go_at_call 20; refine (more_yes b n s v _ h hlt).mono ?_; rintro e w1 ⟨rfl, q, rfl⟩)
  go_quiet (fail)
  go_wp2_with fail
  refine (step_any b n s v _ (h.drewN _) hlt hl).mono ?_
  rintro e w2 ⟨rfl, hT0, hF0⟩
  rw [HP1.out] at hT0
  have hG0 := ((Frm.refl (One b) w).drewN _).then_ hF0
  clear h0 h1 hF0
  go_wp2_with fail
  refine wp_loop_rounds 3 ?_
  rw [rounds_succ]
  go_wp2_with fail
  refine (more_yes b p1 s v _ hT0 hl0).mono ?_
  rintro e W0 ⟨rfl, q0, rfl⟩
  have g0 := hT0.c0
  have g1 := hT0.c1
  go_wp2_with fail
  go_quiet ((go_at_call 51; exact (idx_hex _ _).mono fun _ _ ⟨a, b⟩ => ⟨a, _, b⟩))
  go_wp2_with fail
  refine (step_any b p1 s v _ (hT0.drewN _) hl0 hl).mono ?_
  rintro e V0 ⟨rfl, hT1, hF1⟩
  have hG1 := (hG0.drewN _).then_ hF1
  clear g0 g1 hF1
  rw [HP2.out] at hT1
  go_wp2_with fail
  rw [rounds_succ]
  go_wp2_with fail
  refine (more_yes b p2 s v _ hT1 hl1).mono ?_
  rintro e W1 ⟨rfl, q1, rfl⟩
  have g0 := hT1.c0
  have g1 := hT1.c1
  go_wp2_with fail
  go_quiet ((go_at_call 51; exact (idx_hex _ _).mono fun _ _ ⟨a, b⟩ => ⟨a, _, b⟩))
  go_wp2_with fail
  exact bodyPost_ret (results_tmp2 rfl _ _ _) rfl ⟨rfl, ⟨_, HM.out, hT1.drewN _⟩, hG1.drewN _⟩
set_option maxHeartbeats 1000000 in
theorem escape_hexE (b n : Nat) (s : List UInt8) (v : Value) (w : World) (h : Scn w b s n v) (hl : s.length ≤ 65536) (hlt : n < s.length) (c : UInt8) (hc : s[n] = c) (hcv : c = 120) (p1 : Nat) (hp1 : n + 1 = p1) (hl0 : p1 < s.length) (x0 : UInt8) (hx0 : s[p1] = x0) (m0 : Nat) (hv0 : Gr.hexv x0 = some m0) (p2 : Nat) (hp2 : p1 + 1 = p2) (hl1 : p2 < s.length) (x1 : UInt8) (hx1 : s[p2] = x1) (m1 : Nat) (hv1 : Gr.hexv x1 = some m1) :
    Calls Tryd.prog 69 #[.pointer (some ⟨b, 0, none⟩)] w fun e w' => e = .returned (.tuple #[.int .u8 ((UInt8.ofNat (16 * m0 + m1)).toNat : Int), .bool true]) ∧ Scn w' b s (p2 + 1) v ∧ Frm (One b) w w' := by
  have h0 := h.c0
  have h1 := h.c1
  have z92 : (((c.toNat : Nat) : Int) == 92) = false := by rw [hcv]; rfl
  have z39 : (((c.toNat : Nat) : Int) == 39) = false := by rw [hcv]; rfl
  have z34 : (((c.toNat : Nat) : Int) == 34) = false := by rw [hcv]; rfl
  have z110 : (((c.toNat : Nat) : Int) == 110) = false := by rw [hcv]; rfl
  have z116 : (((c.toNat : Nat) : Int) == 116) = false := by rw [hcv]; rfl
  have z120 : (((c.toNat : Nat) : Int) == 120) = true := by rw [hcv]; rfl
  clear hcv
  have HP1 := hid hp1
  clear hp1
  have hi0 := Gr.hexv_some hv0
  have HB0 := hid (Gr.hexv_lt hv0)
  clear hv0
  have HP2 := hid hp2
  clear hp2
  have hi1 := Gr.hexv_some hv1
  have HB1 := hid (Gr.hexv_lt hv1)
  clear hv1
  go_enter Tryd.func69, Tryd.ntmps69
  go_wp2_with (go_at_call 20; refine (more_yes b n s v _ h hlt).mono ?_; rintro e w1 ⟨rfl, q, rfl⟩)
  go_quiet (fail)
  go_wp2_with fail
  refine (step_any b n s v _ (h.drewN _) hlt hl).mono ?_
  rintro e w2 ⟨rfl, hT0, hF0⟩
  rw [HP1.out] at hT0
  have hG0 := ((Frm.refl (One b) w).drewN _).then_ hF0
  clear h0 h1 hF0
  go_wp2_with fail
  refine wp_loop_rounds 3 ?_
  rw [rounds_succ]
  go_wp2_with fail
  refine (more_yes b p1 s v _ hT0 hl0).mono ?_
  rintro e W0 ⟨rfl, q0, rfl⟩
  have g0 := hT0.c0
  have g1 := hT0.c1
  go_wp2_with fail
  go_quiet ((go_at_call 51; exact (idx_hex _ _).mono fun _ _ ⟨a, b⟩ => ⟨a, _, b⟩))
  go_wp2_with fail
  refine (step_any b p1 s v _ (hT0.drewN _) hl0 hl).mono ?_
  rintro e V0 ⟨rfl, hT1, hF1⟩
  have hG1 := (hG0.drewN _).then_ hF1
  clear g0 g1 hF1
  rw [HP2.out] at hT1
  go_wp2_with fail
  rw [rounds_succ]
  go_wp2_with fail
  refine (more_yes b p2 s v _ hT1 hl1).mono ?_
  rintro e W1 ⟨rfl, q1, rfl⟩
  have g0 := hT1.c0
  have g1 := hT1.c1
  go_wp2_with fail
  go_quiet ((go_at_call 51; exact (idx_hex _ _).mono fun _ _ ⟨a, b⟩ => ⟨a, _, b⟩))
  go_wp2_with fail
  refine (step_any b p2 s v _ (hT1.drewN _) hl1 hl).mono ?_
  rintro e V1 ⟨rfl, hT2, hF2⟩
  have hG2 := (hG1.drewN _).then_ hF2
  clear g0 g1 hF2
  go_wp2_with fail
  rw [rounds_succ]
  go_wp2_with fail
  refine bodyPost_ret (results_tmp2 rfl _ _ _) rfl ⟨?_, hT2, hG2⟩
  have hz := hex_val HB0.out HB1.out
  show Ending.returned (.tuple #[.int .u8 _, _]) = _
  rw [hz]
  rfl
theorem drop_get {s : List UInt8} {n : Nat} {c : UInt8} {l : List UInt8} (h : s.drop n = c :: l) : ∃ hn : n < s.length, s[n] = c ∧ s.drop (n + 1) = l := by
  have hn : n < s.length := by
    rcases Nat.lt_or_ge n s.length with h' | h'
    · exact h'
    · rw [List.drop_eq_nil_of_le h'] at h; cases h
  rw [List.drop_eq_getElem_cons hn] at h
  injection h with h1 h2
  exact ⟨hn, h1, h2⟩
theorem drop_nil {s : List UInt8} {n : Nat} (h : s.drop n = []) : s.length ≤ n := List.drop_eq_nil_iff.mp h
theorem escape_no (b n : Nat) (s : List UInt8) (v : Value) (w : World) (h : Scn w b s n v) (hl : s.length ≤ 65536) (hn : n ≤ s.length) (he : Gr.esc1 (s.drop n) = none) :
    Calls Tryd.prog 69 #[.pointer (some ⟨b, 0, none⟩)] w fun e w' => e = .returned (.tuple #[.int .u8 0, .bool false]) ∧ (∃ m, m ≤ s.length ∧ Scn w' b s m v) ∧ Frm (One b) w w' := by
  cases hd : s.drop n with
  | nil =>
    have := drop_nil hd
    exact (escape_nil b n s v w h (by omega)).mono fun _ _ ⟨a, b1, c⟩ => ⟨a, ⟨n, hn, b1⟩, c⟩
  | cons c l1 =>
    rw [hd] at he
    obtain ⟨hlt, hc, hd1⟩ := drop_get hd
    dsimp only [Gr.esc1] at he
    by_cases h3 : c = 92 ∨ c = 39 ∨ c = 34
    · rw [if_pos h3] at he; cases he
    · rw [if_neg h3] at he
      by_cases h4 : c = 110
      · rw [if_pos h4] at he; cases he
      · rw [if_neg h4] at he
        by_cases h5 : c = 116
        · rw [if_pos h5] at he; cases he
        · rw [if_neg h5] at he
          by_cases h6 : c = 120
          · rw [if_pos h6] at he
            cases l1 with
            | nil =>
              have := drop_nil hd1
              exact escape_hexA b n s v w h hl hlt c hc h6 (n + 1) rfl (by omega)
            | cons x l2 =>
              obtain ⟨hlx, hx, hd2⟩ := drop_get hd1
              cases l2 with
              | nil =>
                have := drop_nil hd2
                cases hv : Gr.hexv x with
                | none => exact escape_hexB b n s v w h hl hlt c hc h6 (n + 1) rfl hlx x hx hv
                | some m => exact escape_hexC b n s v w h hl hlt c hc h6 (n + 1) rfl hlx x hx m hv (n + 1 + 1) rfl (by omega)
              | cons y l3 =>
                obtain ⟨hly, hy, -⟩ := drop_get hd2
                cases hv : Gr.hexv x with
                | none => exact escape_hexB b n s v w h hl hlt c hc h6 (n + 1) rfl hlx x hx hv
                | some m =>
                  cases hv2 : Gr.hexv y with
                  | none => exact escape_hexD b n s v w h hl hlt c hc h6 (n + 1) rfl hlx x hx m hv (n + 1 + 1) rfl hly y hy hv2
                  | some k =>
                    dsimp only at he
                    rw [hv, hv2] at he
                    cases he
          · have hno : c ∉ [92, 39, 34, 110, 116, 120] := by
              simp only [List.mem_cons, List.not_mem_nil, or_false, not_or]
              exact ⟨fun e => h3 (Or.inl e), fun e => h3 (Or.inr (Or.inl e)), fun e => h3 (Or.inr (Or.inr e)), h4, h5, h6⟩
            exact (escape_other b n s v w h hlt c hc hno).mono fun _ _ ⟨a, b1, c⟩ => ⟨a, ⟨n, hn, b1⟩, c⟩
theorem escape_yes (b n : Nat) (s : List UInt8) (v : Value) (w : World) (h : Scn w b s n v) (hl : s.length ≤ 65536) (x : UInt8) (r : List UInt8) (he : Gr.esc1 (s.drop n) = some (x, r)) :
    Calls Tryd.prog 69 #[.pointer (some ⟨b, 0, none⟩)] w fun e w' => e = .returned (.tuple #[.int .u8 (x.toNat : Int), .bool true]) ∧ (∃ m, n < m ∧ m ≤ s.length ∧ s.drop m = r ∧ Scn w' b s m v) ∧ Frm (One b) w w' := by
  cases hd : s.drop n with
  | nil => rw [hd] at he; cases he
  | cons c l1 =>
    rw [hd] at he
    obtain ⟨hlt, hc, hd1⟩ := drop_get hd
    dsimp only [Gr.esc1] at he
    by_cases h3 : c = 92 ∨ c = 39 ∨ c = 34
    · rw [if_pos h3] at he
      cases he
      have HH : Calls Tryd.prog 69 #[.pointer (some ⟨b, 0, none⟩)] w fun e w' => e = .returned (.tuple #[.int .u8 (x.toNat : Int), .bool true]) ∧ Scn w' b s (n + 1) v ∧ Frm (One b) w w' := by
        rcases h3 with h3 | h3 | h3
        · exact escape_bs b n s v w h hl hlt x hc h3
        · exact escape_sq b n s v w h hl hlt x hc h3
        · exact escape_dq b n s v w h hl hlt x hc h3
      exact HH.mono fun _ _ ⟨a, b1, c1⟩ => ⟨a, ⟨n + 1, by omega, by omega, hd1, b1⟩, c1⟩
    · rw [if_neg h3] at he
      by_cases h4 : c = 110
      · rw [if_pos h4] at he
        cases he
        exact (escape_n b n s v w h hl hlt c hc h4).mono fun _ _ ⟨a, b1, c1⟩ => ⟨a, ⟨n + 1, by omega, by omega, hd1, b1⟩, c1⟩
      · rw [if_neg h4] at he
        by_cases h5 : c = 116
        · rw [if_pos h5] at he
          cases he
          exact (escape_t b n s v w h hl hlt c hc h5).mono fun _ _ ⟨a, b1, c1⟩ => ⟨a, ⟨n + 1, by omega, by omega, hd1, b1⟩, c1⟩
        · rw [if_neg h5] at he
          by_cases h6 : c = 120
          · rw [if_pos h6] at he
            match l1, hd1, he with
            | y :: z :: l3, hd1, he =>
              obtain ⟨hlx, hx, hd2⟩ := drop_get hd1
              obtain ⟨hly, hy, hd3⟩ := drop_get hd2
              dsimp only at he
              cases hv : Gr.hexv y with
              | none => rw [hv] at he; cases he
              | some m =>
                cases hv2 : Gr.hexv z with
                | none => rw [hv, hv2] at he; cases he
                | some k =>
                  rw [hv, hv2] at he
                  cases he
                  exact (escape_hexE b n s v w h hl hlt c hc h6 (n + 1) rfl hlx y hx m hv (n + 1 + 1) rfl hly z hy k hv2).mono fun _ _ ⟨a, b1, c1⟩ => ⟨a, ⟨n + 1 + 1 + 1, by omega, by omega, hd3, b1⟩, c1⟩
          · rw [if_neg h6] at he
            cases he
end Go.Proofs.YtebocnpbiiejmaaDoor
