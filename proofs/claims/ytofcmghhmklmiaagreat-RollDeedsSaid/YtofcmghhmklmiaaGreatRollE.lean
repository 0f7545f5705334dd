/- Enrol. Printed by a program (rolle.py). -/
import Derived.Test.YtofcmghhmklmiaaGreatRollD
namespace Go.Proofs.YtofcmghhmklmiaaGreat
open Go.RowKit
open Roll

/-- What a deed returns. -/
def DeedP (w : World) (r : Rl × Int) (e : Ending) (w' : World) : Prop := ∃ mv' cv', e = .returned (.tuple #[.agg #[mv', cv'], .int .i64 r.2]) ∧ RlR w' mv' cv' r.1 ∧ Frm No w w'
theorem rclone_inv {R : Rl} {mv cv : Value} {w : World} (hr : RlR w mv cv R) (hI : Inv R) :
    Calls Tryz.prog 55 #[.agg #[mv, cv]] w fun e w' => ∃ mv' cv' cs', e = .returned (.agg #[mv', cv']) ∧ RlO w.heap.size w' mv' cv' R cs' ∧ Frm No w w' :=
  rclone_any R mv cv w hr (by have := hI.ml; omega) (by have := hI.cl; omega) (fun c hc => by have := hI.students hc; omega)
set_option maxRecDepth 100000 in
set_option maxHeartbeats 4000000 in
theorem renrol_any (R : Rl) (mv cv : Value) (n : B) (role : Int) (w : World) (hr : RlR w mv cv R) (hI : Inv R) (hn : n.length ≤ 9223372036854775807) :
    Calls Tryz.prog 18 #[.agg #[mv, cv], .string ⟨n.toArray⟩, .int .i64 role] w (DeedP w (enrol R n role)) := by
  have HM := hid (fun w1 (hf : Frm No w w1) => member_any R mv cv n w1 (hr.no hf) hI.ms (by have := hI.ml; omega))
  have HG := hid (fun w1 => good_any n w1 hn)
  have HC := hid (fun w1 (hf : Frm No w w1) => rclone_inv (hr.no hf) hI)
  have hml := hI.ml
  obtain ⟨mao, mcp, rfl⟩ := hr.mr.shape
  obtain ⟨cs, hfs, hc, -⟩ := hr.cr
  have hcl : cs.length ≤ 32 := by have := hI.cl; rw [← hfs] at this; simpa using this
  obtain ⟨cao, ccp, rfl⟩ := hc.shape
  obtain ⟨ml, hmle⟩ : ∃ ml, R.mems.length = ml := ⟨_, rfl⟩
  rw [hmle] at hml HM HC ⊢
  obtain ⟨cl, hcle⟩ : ∃ cl, cs.length = cl := ⟨_, rfl⟩
  rw [hcle] at hcl HM HC ⊢
  have hp := @place_le _ Mem.name R.mems n
  rw [hmle] at hp
  have HMLE := hid hmle
  clear hr hc hfs hcle hmle
  by_cases h1 : Cmd.gn n = false
  · have he : enrol R n role = (Roll.nil, 8) := by unfold enrol; rw [if_pos h1]
    rw [h1] at HG
    rw [he]
    clear he h1 HC hI HMLE
    generalize place Mem.name R.mems n = p at *
    generalize has Mem.name R.mems n = q at *
    go_enter Tryz.func18, Tryz.ntmps18
    go_upto_region 1 with fail
    have X0 := Box.new (Frm.refl No w) [.slice mao ml mcp, .slice cao cl ccp] 27
    have X1 := Box.new X0.frm [.slice none 0 0, .slice none 0 0] 27
    have Y0 := X0.no ((Frm.refl No _).alloc (.cells #[.slice none 0 0, .slice none 0 0] 27))
    simp only [World.size_alloc] at X1
    obtain ⟨W, hW⟩ : ∃ W, W = (w.alloc (.cells #[.slice mao ml mcp, .slice cao cl ccp] 27)).alloc (.cells #[.slice none 0 0, .slice none 0 0] 27) := ⟨_, rfl⟩
    rw [← hW] at X1 Y0 ⊢
    clear hW
    obtain ⟨b, hb⟩ : ∃ b, w.heap.size = b := ⟨_, rfl⟩
    rw [hb] at X1 Y0
    simp only [hb]
    have F1 := X1.frm
    have HX1 := hid X1
    have HY0 := hid Y0
    have cW := Y0.cell
    clear X0 X1 Y0
    go_wp2_with (first | (go_at_call 48; refine (HM.out _ F1).mono ?_; rintro e w1 ⟨rfl, hf1⟩; have BX := HX1.out.no hf1; have cX := BX.cell; have fX := BX.fr; have BY := HY0.out.no hf1; have cY := BY.cell) | (go_at_call 54; refine (HG.out _).mono ?_; rintro e w2 ⟨rfl, rfl⟩))
    have BX2 := (BX.set 0 (by simp) (.slice none 0 0)).set 1 (by simp) (.slice none 0 0)
    have e0 := BX2.cell 0
    have e1 := BX2.cell 1
    simp only [List.set_cons_zero, List.set_cons_succ, List.getElem?_cons_zero, List.getElem?_cons_succ] at e0 e1
    refine bodyPost_ret (v := .tuple #[.agg #[.slice none 0 0, .slice none 0 0], .int .i64 8]) (by simp [results, Tryz.results18, go_sem, e0, e1]) rfl ⟨_, _, rfl, nil_rd _, BX2.frm⟩
  by_cases h2 : role ≠ 1 ∧ role ≠ 2
  · have he : enrol R n role = (Roll.nil, 7) := by unfold enrol; rw [if_neg h1, if_pos h2]
    rw [Bool.not_eq_false] at h1
    rw [h1] at HG
    rw [he]
    have h2a : (role == 1) = false := by simpa using h2.1
    have h2b : (role == 2) = false := by simpa using h2.2
    have h2c : (role != 1) = true := by simpa using h2.1
    have h2d : (role != 2) = true := by simpa using h2.2
    clear he h1 HC hI HMLE h2
    generalize place Mem.name R.mems n = p at *
    generalize has Mem.name R.mems n = q at *
    go_enter Tryz.func18, Tryz.ntmps18
    go_upto_region 1 with fail
    have X0 := Box.new (Frm.refl No w) [.slice mao ml mcp, .slice cao cl ccp] 27
    have X1 := Box.new X0.frm [.slice none 0 0, .slice none 0 0] 27
    have Y0 := X0.no ((Frm.refl No _).alloc (.cells #[.slice none 0 0, .slice none 0 0] 27))
    simp only [World.size_alloc] at X1
    obtain ⟨W, hW⟩ : ∃ W, W = (w.alloc (.cells #[.slice mao ml mcp, .slice cao cl ccp] 27)).alloc (.cells #[.slice none 0 0, .slice none 0 0] 27) := ⟨_, rfl⟩
    rw [← hW] at X1 Y0 ⊢
    clear hW
    obtain ⟨b, hb⟩ : ∃ b, w.heap.size = b := ⟨_, rfl⟩
    rw [hb] at X1 Y0
    simp only [hb]
    have F1 := X1.frm
    have HX1 := hid X1
    have HY0 := hid Y0
    have cW := Y0.cell
    clear X0 X1 Y0
    go_wp2_with (first | (go_at_call 48; refine (HM.out _ F1).mono ?_; rintro e w1 ⟨rfl, hf1⟩; have BX := HX1.out.no hf1; have cX := BX.cell; have fX := BX.fr; have BY := HY0.out.no hf1; have cY := BY.cell) | (go_at_call 54; refine (HG.out _).mono ?_; rintro e w2 ⟨rfl, rfl⟩))
    have BX2 := (BX.set 0 (by simp) (.slice none 0 0)).set 1 (by simp) (.slice none 0 0)
    have e0 := BX2.cell 0
    have e1 := BX2.cell 1
    simp only [List.set_cons_zero, List.set_cons_succ, List.getElem?_cons_zero, List.getElem?_cons_succ] at e0 e1
    refine bodyPost_ret (v := .tuple #[.agg #[.slice none 0 0, .slice none 0 0], .int .i64 7]) (by simp [results, Tryz.results18, go_sem, e0, e1]) rfl ⟨_, _, rfl, nil_rd _, BX2.frm⟩
  by_cases h3 : has Mem.name R.mems n = true
  · have he : enrol R n role = (Roll.nil, 9) := by unfold enrol; rw [if_neg h1, if_neg h2, if_pos h3]
    rw [Bool.not_eq_false] at h1
    rw [h1] at HG
    rw [h3] at HM
    rw [he]
    clear he h1 h3 HC hI HMLE
    generalize place Mem.name R.mems n = p at *
    rcases (show role = 1 ∨ role = 2 by omega) with rfl | rfl
    · go_enter Tryz.func18, Tryz.ntmps18
      go_upto_region 1 with fail
      have X0 := Box.new (Frm.refl No w) [.slice mao ml mcp, .slice cao cl ccp] 27
      have X1 := Box.new X0.frm [.slice none 0 0, .slice none 0 0] 27
      have Y0 := X0.no ((Frm.refl No _).alloc (.cells #[.slice none 0 0, .slice none 0 0] 27))
      simp only [World.size_alloc] at X1
      obtain ⟨W, hW⟩ : ∃ W, W = (w.alloc (.cells #[.slice mao ml mcp, .slice cao cl ccp] 27)).alloc (.cells #[.slice none 0 0, .slice none 0 0] 27) := ⟨_, rfl⟩
      rw [← hW] at X1 Y0 ⊢
      clear hW
      obtain ⟨b, hb⟩ : ∃ b, w.heap.size = b := ⟨_, rfl⟩
      rw [hb] at X1 Y0
      simp only [hb]
      have F1 := X1.frm
      have HX1 := hid X1
      have HY0 := hid Y0
      have cW := Y0.cell
      clear X0 X1 Y0
      go_wp2_with (first | (go_at_call 48; refine (HM.out _ F1).mono ?_; rintro e w1 ⟨rfl, hf1⟩; have BX := HX1.out.no hf1; have cX := BX.cell; have fX := BX.fr; have BY := HY0.out.no hf1; have cY := BY.cell) | (go_at_call 54; refine (HG.out _).mono ?_; rintro e w2 ⟨rfl, rfl⟩))
      have BX2 := (BX.set 0 (by simp) (.slice none 0 0)).set 1 (by simp) (.slice none 0 0)
      have e0 := BX2.cell 0
      have e1 := BX2.cell 1
      simp only [List.set_cons_zero, List.set_cons_succ, List.getElem?_cons_zero, List.getElem?_cons_succ] at e0 e1
      refine bodyPost_ret (v := .tuple #[.agg #[.slice none 0 0, .slice none 0 0], .int .i64 9]) (by simp [results, Tryz.results18, go_sem, e0, e1]) rfl ⟨_, _, rfl, nil_rd _, BX2.frm⟩
    · go_enter Tryz.func18, Tryz.ntmps18
      go_upto_region 1 with fail
      have X0 := Box.new (Frm.refl No w) [.slice mao ml mcp, .slice cao cl ccp] 27
      have X1 := Box.new X0.frm [.slice none 0 0, .slice none 0 0] 27
      have Y0 := X0.no ((Frm.refl No _).alloc (.cells #[.slice none 0 0, .slice none 0 0] 27))
      simp only [World.size_alloc] at X1
      obtain ⟨W, hW⟩ : ∃ W, W = (w.alloc (.cells #[.slice mao ml mcp, .slice cao cl ccp] 27)).alloc (.cells #[.slice none 0 0, .slice none 0 0] 27) := ⟨_, rfl⟩
      rw [← hW] at X1 Y0 ⊢
      clear hW
      obtain ⟨b, hb⟩ : ∃ b, w.heap.size = b := ⟨_, rfl⟩
      rw [hb] at X1 Y0
      simp only [hb]
      have F1 := X1.frm
      have HX1 := hid X1
      have HY0 := hid Y0
      have cW := Y0.cell
      clear X0 X1 Y0
      go_wp2_with (first | (go_at_call 48; refine (HM.out _ F1).mono ?_; rintro e w1 ⟨rfl, hf1⟩; have BX := HX1.out.no hf1; have cX := BX.cell; have fX := BX.fr; have BY := HY0.out.no hf1; have cY := BY.cell) | (go_at_call 54; refine (HG.out _).mono ?_; rintro e w2 ⟨rfl, rfl⟩))
      have BX2 := (BX.set 0 (by simp) (.slice none 0 0)).set 1 (by simp) (.slice none 0 0)
      have e0 := BX2.cell 0
      have e1 := BX2.cell 1
      simp only [List.set_cons_zero, List.set_cons_succ, List.getElem?_cons_zero, List.getElem?_cons_succ] at e0 e1
      refine bodyPost_ret (v := .tuple #[.agg #[.slice none 0 0, .slice none 0 0], .int .i64 9]) (by simp [results, Tryz.results18, go_sem, e0, e1]) rfl ⟨_, _, rfl, nil_rd _, BX2.frm⟩
  by_cases h4 : 256 ≤ ml
  · have he : enrol R n role = (Roll.nil, 12) := by unfold enrol; rw [if_neg h1, if_neg h2, if_neg h3, HMLE.out, if_pos h4]
    rw [Bool.not_eq_false] at h1
    rw [Bool.not_eq_true] at h3
    rw [h1] at HG
    rw [h3] at HM
    rw [he]
    clear he h1 h3 HC hI HMLE
    generalize place Mem.name R.mems n = p at *
    have h4z : (256 : Int) ≤ (ml : Int) := by omega
    rcases (show role = 1 ∨ role = 2 by omega) with rfl | rfl
    · go_enter Tryz.func18, Tryz.ntmps18
      go_upto_region 1 with fail
      have X0 := Box.new (Frm.refl No w) [.slice mao ml mcp, .slice cao cl ccp] 27
      have X1 := Box.new X0.frm [.slice none 0 0, .slice none 0 0] 27
      have Y0 := X0.no ((Frm.refl No _).alloc (.cells #[.slice none 0 0, .slice none 0 0] 27))
      simp only [World.size_alloc] at X1
      obtain ⟨W, hW⟩ : ∃ W, W = (w.alloc (.cells #[.slice mao ml mcp, .slice cao cl ccp] 27)).alloc (.cells #[.slice none 0 0, .slice none 0 0] 27) := ⟨_, rfl⟩
      rw [← hW] at X1 Y0 ⊢
      clear hW
      obtain ⟨b, hb⟩ : ∃ b, w.heap.size = b := ⟨_, rfl⟩
      rw [hb] at X1 Y0
      simp only [hb]
      have F1 := X1.frm
      have HX1 := hid X1
      have HY0 := hid Y0
      have cW := Y0.cell
      clear X0 X1 Y0
      go_wp2_with (first | (go_at_call 48; refine (HM.out _ F1).mono ?_; rintro e w1 ⟨rfl, hf1⟩; have BX := HX1.out.no hf1; have cX := BX.cell; have fX := BX.fr; have BY := HY0.out.no hf1; have cY := BY.cell) | (go_at_call 54; refine (HG.out _).mono ?_; rintro e w2 ⟨rfl, rfl⟩))
      have BX2 := (BX.set 0 (by simp) (.slice none 0 0)).set 1 (by simp) (.slice none 0 0)
      have e0 := BX2.cell 0
      have e1 := BX2.cell 1
      simp only [List.set_cons_zero, List.set_cons_succ, List.getElem?_cons_zero, List.getElem?_cons_succ] at e0 e1
      refine bodyPost_ret (v := .tuple #[.agg #[.slice none 0 0, .slice none 0 0], .int .i64 12]) (by simp [results, Tryz.results18, go_sem, e0, e1]) rfl ⟨_, _, rfl, nil_rd _, BX2.frm⟩
    · go_enter Tryz.func18, Tryz.ntmps18
      go_upto_region 1 with fail
      have X0 := Box.new (Frm.refl No w) [.slice mao ml mcp, .slice cao cl ccp] 27
      have X1 := Box.new X0.frm [.slice none 0 0, .slice none 0 0] 27
      have Y0 := X0.no ((Frm.refl No _).alloc (.cells #[.slice none 0 0, .slice none 0 0] 27))
      simp only [World.size_alloc] at X1
      obtain ⟨W, hW⟩ : ∃ W, W = (w.alloc (.cells #[.slice mao ml mcp, .slice cao cl ccp] 27)).alloc (.cells #[.slice none 0 0, .slice none 0 0] 27) := ⟨_, rfl⟩
      rw [← hW] at X1 Y0 ⊢
      clear hW
      obtain ⟨b, hb⟩ : ∃ b, w.heap.size = b := ⟨_, rfl⟩
      rw [hb] at X1 Y0
      simp only [hb]
      have F1 := X1.frm
      have HX1 := hid X1
      have HY0 := hid Y0
      have cW := Y0.cell
      clear X0 X1 Y0
      go_wp2_with (first | (go_at_call 48; refine (HM.out _ F1).mono ?_; rintro e w1 ⟨rfl, hf1⟩; have BX := HX1.out.no hf1; have cX := BX.cell; have fX := BX.fr; have BY := HY0.out.no hf1; have cY := BY.cell) | (go_at_call 54; refine (HG.out _).mono ?_; rintro e w2 ⟨rfl, rfl⟩))
      have BX2 := (BX.set 0 (by simp) (.slice none 0 0)).set 1 (by simp) (.slice none 0 0)
      have e0 := BX2.cell 0
      have e1 := BX2.cell 1
      simp only [List.set_cons_zero, List.set_cons_succ, List.getElem?_cons_zero, List.getElem?_cons_succ] at e0 e1
      refine bodyPost_ret (v := .tuple #[.agg #[.slice none 0 0, .slice none 0 0], .int .i64 12]) (by simp [results, Tryz.results18, go_sem, e0, e1]) rfl ⟨_, _, rfl, nil_rd _, BX2.frm⟩
  have he : enrol R n role = (⟨ins Mem.name R.mems n ⟨n, role, 4096⟩, R.clss⟩, 0) := by unfold enrol; rw [if_neg h1, if_neg h2, if_neg h3, HMLE.out, if_neg h4]
  rw [Bool.not_eq_false] at h1
  rw [Bool.not_eq_true] at h3
  rw [h1] at HG
  rw [h3] at HM
  rw [he]
  have HINS : Hid (ins Mem.name R.mems n ⟨n, role, 4096⟩ = R.mems.take (place Mem.name R.mems n) ++ ⟨n, role, 4096⟩ :: R.mems.drop (place Mem.name R.mems n) ∧ (ins Mem.name R.mems n ⟨n, role, 4096⟩).length = ml + 1) := hid ⟨rfl, by rw [ins_length, HMLE.out]⟩
  have HIM := hid (fun (base : Nat) (v : Value) (vb : Nat) (w1 : World) (hrow : w1.ownsRow base 45 3 v R.mems.length (rows memV R.mems)) hbw hvb hne => insert_mem base v R.mems (place Mem.name R.mems n) ⟨n, role, 4096⟩ vb w1 hrow hbw place_le (by rw [HMLE.out]; omega) hvb hne)
  rw [HMLE.out] at HIM
  clear he h1 h3 hI
  obtain ⟨p, hpe⟩ : ∃ p, place Mem.name R.mems n = p := ⟨_, rfl⟩
  simp only [hpe] at HIM HM hp
  have HPE := hid hpe
  clear hpe
  have h4z : ¬ (256 : Int) ≤ (ml : Int) := by omega
  have hrl : role = 1 ∨ role = 2 := by omega
  clear h2
  rcases hrl with rfl | rfl
  · as_aux_lemma =>
    go_enter Tryz.func18, Tryz.ntmps18
    go_upto_region 1 with fail
    have X0 := Box.new (Frm.refl No w) [.slice mao ml mcp, .slice cao cl ccp] 27
    have X1 := Box.new X0.frm [.slice none 0 0, .slice none 0 0] 27
    have Y0 := X0.no ((Frm.refl No _).alloc (.cells #[.slice none 0 0, .slice none 0 0] 27))
    simp only [World.size_alloc] at X1
    obtain ⟨W, hW⟩ : ∃ W, W = (w.alloc (.cells #[.slice mao ml mcp, .slice cao cl ccp] 27)).alloc (.cells #[.slice none 0 0, .slice none 0 0] 27) := ⟨_, rfl⟩
    rw [← hW] at X1 Y0 ⊢
    clear hW
    obtain ⟨b, hb⟩ : ∃ b, w.heap.size = b := ⟨_, rfl⟩
    rw [hb] at X1 Y0
    simp only [hb]
    have F1 := X1.frm
    have HX1 := hid X1
    have HY0 := hid Y0
    have cW := Y0.cell
    clear X0 X1 Y0
    go_upto_region 11 with (first | (go_at_call 48; refine (HM.out _ F1).mono ?_; rintro e w1 ⟨rfl, hf1⟩; have BX := HX1.out.no hf1; have cX := BX.cell; have fX := BX.fr; have BY := HY0.out.no hf1; have cY := BY.cell) | (go_at_call 54; refine (HG.out _).mono ?_; rintro e w2 ⟨rfl, rfl⟩) | (go_at_call 55; refine (HC.out _ BY.frm).mono ?_; rintro e w2 ⟨mv2, cv2, cs2, rfl, hO, hf2⟩; obtain ⟨mao2, mcp2, rfl⟩ := ownsRow_shape hO.mo; obtain ⟨cao2, ccp2, rfl⟩ := ownsRow_shape hO.co))
    have hmle := HMLE.out
    have HO := hid hO
    rw [hmle]
    have BX2 := BX.no hf2
    have X10 := Box.new BX2.frm [.slice mao2 ml mcp2, .slice cao2 cs2.length ccp2] 27
    have BX3 := BX2.no ((Frm.refl No w2).alloc (.cells #[.slice mao2 ml mcp2, .slice cao2 cs2.length ccp2] 27))
    have hOa := hO.no ((Frm.refl No w2).alloc (.cells #[.slice mao2 ml mcp2, .slice cao2 cs2.length ccp2] 27))
    have hlt := hO.lt
    rw [hmle] at hOa hlt
    obtain ⟨WA, hWA⟩ : ∃ WA, WA = w2.alloc (.cells #[.slice mao2 ml mcp2, .slice cao2 cs2.length ccp2] 27) := ⟨_, rfl⟩
    have hsA : WA.heap.size = w2.heap.size + 1 := by rw [hWA]; simp
    rw [← hWA] at X10 BX3 hOa ⊢
    clear hWA
    obtain ⟨C, hC⟩ : ∃ C, w2.heap.size = C := ⟨_, rfl⟩
    rw [hC] at X10 hsA hlt
    simp only [hC]
    have h12 : w1.heap.size ≤ C := by rw [← hC]; exact hf2.size
    have c10 := X10.cell
    have HB3 := hid BX3
    have HX10 := hid X10
    have HOA := hid hOa
    have HLT := hid hlt
    have HSA := hid hsA
    have hbX := BX3.lC
    have hbB : b + 1 < w1.heap.size := BX.lC
    clear hO hlt X10 BX3 BX2 BX cX fX BY cY cW HC HM HG HX1 HY0 hmle hOa HO hsA
    have hV : ∀ T, (WA.alloc (.cells #[.string ⟨n.toArray⟩, .int .i64 1, .int .i64 4096] T)).heap[WA.heap.size]? = some (.cells (memV ⟨n, 1, 4096⟩).toArray T (0, 0)) := fun T => heap_alloc_new _ _
    have HI2 := hid (HIM.out w1.heap.size (.slice mao2 ml mcp2) WA.heap.size (WA.alloc (.cells #[.string ⟨n.toArray⟩, .int .i64 1, .int .i64 4096] 45)) (by have := HOA.out.mo; simp only [HMLE.out] at this; exact this.alloc _) (by have := HSA.out; simp; omega) (hV _) (fun k hk => by have := (HLT.out.1 k hk).2; have := HSA.out; omega))
    clear HIM hV
    go_upto_region 12 with (go_at_call 56; refine HI2.out.mono ?_; rintro e w3 ⟨v3, rfl, hrow3, hown3, hf3⟩; obtain ⟨ao3, cp3, rfl⟩ := ownsRow_shape hrow3; have hfA := ((Frm.refl No WA).alloc (.cells #[.string ⟨n.toArray⟩, .int .i64 1, .int .i64 4096] 45)).any.then_ hf3; have B10 := HX10.out.other hfA (fun e => by have := (HLT.out.1 _ e).2; omega) (fun k hk => by have := (HLT.out.1 k hk).1; omega); have B6 := HB3.out.other hfA (fun e => by have := (HLT.out.1 _ e).1; omega) (fun k hk => by have := (HLT.out.1 k hk).1; omega); have k10 := B10.cell; have g10 := B10.fr)
    have hO3 := HOA.out.setM hfA (ins Mem.name R.mems n ⟨n, 1, 4096⟩) (by rw [HINS.out.2, HINS.out.1, HPE.out]; exact hrow3) (hown3.imp id (fun ⟨k, h, hk⟩ => ⟨k, h, by rw [World.size_alloc] at hk; omega⟩))
    have hv3 : ∀ k, (Value.slice ao3 (ml + 1) cp3).ownBlock = some k → w1.heap.size ≤ k ∧ k ≠ C := fun k hk => by
      rcases hown3 with h | ⟨k', h, hk'⟩
      · rw [h] at hk
        have := HLT.out.1 k hk
        omega
      · rw [h] at hk
        cases hk
        rw [World.size_alloc] at hk'
        have := HSA.out
        omega
    have B10s := B10.set 0 (by simp) (.slice ao3 (ml + 1) cp3)
    have B6s := B6.setOther (D := C) B10.hC (by omega) 0 (.slice ao3 (ml + 1) cp3)
    have hFs : Frm (One C) w3 (w3.setCell ⟨C, 0, none⟩ (.slice ao3 (ml + 1) cp3)) := setCell_own _
    generalize w3.setCell ⟨C, 0, none⟩ (.slice ao3 (ml + 1) cp3) = w4 at *
    have k10s := B10s.cell
    have k6 := B6s.cell
    have g6 := B6s.fr
    simp only [List.set_cons_zero] at k10s
    clear k10 g10 c10 HI2 hrow3 hf3
    go_wp2_with fail
    have B6t := (B6s.set 0 (by simp) (.slice ao3 (ml + 1) cp3)).set 1 (by simp) (.slice cao2 cs2.length ccp2)
    have hFt : Frm (One (b + 1)) w4 ((w4.setCell ⟨b + 1, 0, none⟩ (.slice ao3 (ml + 1) cp3)).setCell ⟨b + 1, 1, none⟩ (.slice cao2 cs2.length ccp2)) := (setCell_own _).then_ (setCell_own _)
    have e0 := B6t.cell 0
    have e1 := B6t.cell 1
    simp only [List.set_cons_zero, List.set_cons_succ, List.getElem?_cons_zero, List.getElem?_cons_succ] at e0 e1
    generalize (w4.setCell ⟨b + 1, 0, none⟩ (.slice ao3 (ml + 1) cp3)).setCell ⟨b + 1, 1, none⟩ (.slice cao2 cs2.length ccp2) = w5 at *
    have hO5 := (hO3.frm hFs (fun k hk e => (hv3 k hk).2 e) (fun k hk e => by have e : k = C := e; have := (HLT.out.2.1 k hk).2; omega) (fun p hp k hk e => by have e : k = C := e; have := (HLT.out.2.2 p hp k hk).2; omega)).frm hFt (fun k hk e => by have e : k = b + 1 := e; have := (hv3 k hk).1; omega) (fun k hk e => by have e : k = b + 1 := e; have := (HLT.out.2.1 k hk).1; omega) (fun p hp k hk e => by have e : k = b + 1 := e; have := (HLT.out.2.2 p hp k hk).1; omega)
    refine bodyPost_ret (v := .tuple #[.agg #[.slice ao3 (ml + 1) cp3, .slice cao2 cs2.length ccp2], .int .i64 0]) (by simp [results, Tryz.results18, go_sem, e0, e1]) rfl ⟨_, _, rfl, hO5.rd, B6t.frm⟩
  · as_aux_lemma =>
    go_enter Tryz.func18, Tryz.ntmps18
    go_upto_region 1 with fail
    have X0 := Box.new (Frm.refl No w) [.slice mao ml mcp, .slice cao cl ccp] 27
    have X1 := Box.new X0.frm [.slice none 0 0, .slice none 0 0] 27
    have Y0 := X0.no ((Frm.refl No _).alloc (.cells #[.slice none 0 0, .slice none 0 0] 27))
    simp only [World.size_alloc] at X1
    obtain ⟨W, hW⟩ : ∃ W, W = (w.alloc (.cells #[.slice mao ml mcp, .slice cao cl ccp] 27)).alloc (.cells #[.slice none 0 0, .slice none 0 0] 27) := ⟨_, rfl⟩
    rw [← hW] at X1 Y0 ⊢
    clear hW
    obtain ⟨b, hb⟩ : ∃ b, w.heap.size = b := ⟨_, rfl⟩
    rw [hb] at X1 Y0
    simp only [hb]
    have F1 := X1.frm
    have HX1 := hid X1
    have HY0 := hid Y0
    have cW := Y0.cell
    clear X0 X1 Y0
    go_upto_region 11 with (first | (go_at_call 48; refine (HM.out _ F1).mono ?_; rintro e w1 ⟨rfl, hf1⟩; have BX := HX1.out.no hf1; have cX := BX.cell; have fX := BX.fr; have BY := HY0.out.no hf1; have cY := BY.cell) | (go_at_call 54; refine (HG.out _).mono ?_; rintro e w2 ⟨rfl, rfl⟩) | (go_at_call 55; refine (HC.out _ BY.frm).mono ?_; rintro e w2 ⟨mv2, cv2, cs2, rfl, hO, hf2⟩; obtain ⟨mao2, mcp2, rfl⟩ := ownsRow_shape hO.mo; obtain ⟨cao2, ccp2, rfl⟩ := ownsRow_shape hO.co))
    have hmle := HMLE.out
    have HO := hid hO
    rw [hmle]
    have BX2 := BX.no hf2
    have X10 := Box.new BX2.frm [.slice mao2 ml mcp2, .slice cao2 cs2.length ccp2] 27
    have BX3 := BX2.no ((Frm.refl No w2).alloc (.cells #[.slice mao2 ml mcp2, .slice cao2 cs2.length ccp2] 27))
    have hOa := hO.no ((Frm.refl No w2).alloc (.cells #[.slice mao2 ml mcp2, .slice cao2 cs2.length ccp2] 27))
    have hlt := hO.lt
    rw [hmle] at hOa hlt
    obtain ⟨WA, hWA⟩ : ∃ WA, WA = w2.alloc (.cells #[.slice mao2 ml mcp2, .slice cao2 cs2.length ccp2] 27) := ⟨_, rfl⟩
    have hsA : WA.heap.size = w2.heap.size + 1 := by rw [hWA]; simp
    rw [← hWA] at X10 BX3 hOa ⊢
    clear hWA
    obtain ⟨C, hC⟩ : ∃ C, w2.heap.size = C := ⟨_, rfl⟩
    rw [hC] at X10 hsA hlt
    simp only [hC]
    have h12 : w1.heap.size ≤ C := by rw [← hC]; exact hf2.size
    have c10 := X10.cell
    have HB3 := hid BX3
    have HX10 := hid X10
    have HOA := hid hOa
    have HLT := hid hlt
    have HSA := hid hsA
    have hbX := BX3.lC
    have hbB : b + 1 < w1.heap.size := BX.lC
    clear hO hlt X10 BX3 BX2 BX cX fX BY cY cW HC HM HG HX1 HY0 hmle hOa HO hsA
    have hV : ∀ T, (WA.alloc (.cells #[.string ⟨n.toArray⟩, .int .i64 2, .int .i64 4096] T)).heap[WA.heap.size]? = some (.cells (memV ⟨n, 2, 4096⟩).toArray T (0, 0)) := fun T => heap_alloc_new _ _
    have HI2 := hid (HIM.out w1.heap.size (.slice mao2 ml mcp2) WA.heap.size (WA.alloc (.cells #[.string ⟨n.toArray⟩, .int .i64 2, .int .i64 4096] 45)) (by have := HOA.out.mo; simp only [HMLE.out] at this; exact this.alloc _) (by have := HSA.out; simp; omega) (hV _) (fun k hk => by have := (HLT.out.1 k hk).2; have := HSA.out; omega))
    clear HIM hV
    go_upto_region 12 with (go_at_call 56; refine HI2.out.mono ?_; rintro e w3 ⟨v3, rfl, hrow3, hown3, hf3⟩; obtain ⟨ao3, cp3, rfl⟩ := ownsRow_shape hrow3; have hfA := ((Frm.refl No WA).alloc (.cells #[.string ⟨n.toArray⟩, .int .i64 2, .int .i64 4096] 45)).any.then_ hf3; have B10 := HX10.out.other hfA (fun e => by have := (HLT.out.1 _ e).2; omega) (fun k hk => by have := (HLT.out.1 k hk).1; omega); have B6 := HB3.out.other hfA (fun e => by have := (HLT.out.1 _ e).1; omega) (fun k hk => by have := (HLT.out.1 k hk).1; omega); have k10 := B10.cell; have g10 := B10.fr)
    have hO3 := HOA.out.setM hfA (ins Mem.name R.mems n ⟨n, 2, 4096⟩) (by rw [HINS.out.2, HINS.out.1, HPE.out]; exact hrow3) (hown3.imp id (fun ⟨k, h, hk⟩ => ⟨k, h, by rw [World.size_alloc] at hk; omega⟩))
    have hv3 : ∀ k, (Value.slice ao3 (ml + 1) cp3).ownBlock = some k → w1.heap.size ≤ k ∧ k ≠ C := fun k hk => by
      rcases hown3 with h | ⟨k', h, hk'⟩
      · rw [h] at hk
        have := HLT.out.1 k hk
        omega
      · rw [h] at hk
        cases hk
        rw [World.size_alloc] at hk'
        have := HSA.out
        omega
    have B10s := B10.set 0 (by simp) (.slice ao3 (ml + 1) cp3)
    have B6s := B6.setOther (D := C) B10.hC (by omega) 0 (.slice ao3 (ml + 1) cp3)
    have hFs : Frm (One C) w3 (w3.setCell ⟨C, 0, none⟩ (.slice ao3 (ml + 1) cp3)) := setCell_own _
    generalize w3.setCell ⟨C, 0, none⟩ (.slice ao3 (ml + 1) cp3) = w4 at *
    have k10s := B10s.cell
    have k6 := B6s.cell
    have g6 := B6s.fr
    simp only [List.set_cons_zero] at k10s
    clear k10 g10 c10 HI2 hrow3 hf3
    go_wp2_with fail
    have B6t := (B6s.set 0 (by simp) (.slice ao3 (ml + 1) cp3)).set 1 (by simp) (.slice cao2 cs2.length ccp2)
    have hFt : Frm (One (b + 1)) w4 ((w4.setCell ⟨b + 1, 0, none⟩ (.slice ao3 (ml + 1) cp3)).setCell ⟨b + 1, 1, none⟩ (.slice cao2 cs2.length ccp2)) := (setCell_own _).then_ (setCell_own _)
    have e0 := B6t.cell 0
    have e1 := B6t.cell 1
    simp only [List.set_cons_zero, List.set_cons_succ, List.getElem?_cons_zero, List.getElem?_cons_succ] at e0 e1
    generalize (w4.setCell ⟨b + 1, 0, none⟩ (.slice ao3 (ml + 1) cp3)).setCell ⟨b + 1, 1, none⟩ (.slice cao2 cs2.length ccp2) = w5 at *
    have hO5 := (hO3.frm hFs (fun k hk e => (hv3 k hk).2 e) (fun k hk e => by have e : k = C := e; have := (HLT.out.2.1 k hk).2; omega) (fun p hp k hk e => by have e : k = C := e; have := (HLT.out.2.2 p hp k hk).2; omega)).frm hFt (fun k hk e => by have e : k = b + 1 := e; have := (hv3 k hk).1; omega) (fun k hk e => by have e : k = b + 1 := e; have := (HLT.out.2.1 k hk).1; omega) (fun p hp k hk e => by have e : k = b + 1 := e; have := (HLT.out.2.2 p hp k hk).1; omega)
    refine bodyPost_ret (v := .tuple #[.agg #[.slice ao3 (ml + 1) cp3, .slice cao2 cs2.length ccp2], .int .i64 0]) (by simp [results, Tryz.results18, go_sem, e0, e1]) rfl ⟨_, _, rfl, hO5.rd, B6t.frm⟩
end Go.Proofs.YtofcmghhmklmiaaGreat
