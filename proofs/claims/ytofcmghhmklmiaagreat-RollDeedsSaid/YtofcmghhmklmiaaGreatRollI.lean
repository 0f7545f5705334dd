/- Close, Grant. Printed by a program (rolli.py). -/
import Derived.Test.YtofcmghhmklmiaaGreatRollTT
namespace Go.Proofs.YtofcmghhmklmiaaGreat
open Go.RowKit
open Roll

theorem map_erase {α β : Type} (f : α → β) (l : List α) (i : Nat) : (l.map f).eraseIdx i = (l.eraseIdx i).map f := by
  simp [List.eraseIdx_eq_take_drop_succ, List.map_take, List.map_drop]
set_option maxRecDepth 100000 in
set_option maxHeartbeats 4000000 in
theorem rclose_any (R : Rl) (mv cv : Value) (c : B) (w : World) (hr : RlR w mv cv R) (hI : Inv R) :
    Calls Tryz.prog 23 #[.agg #[mv, cv], .string ⟨c.toArray⟩] w (DeedP w (close R c)) := by
  have HK := hid (fun w1 (hf : Frm No w w1) => class_any R mv cv c w1 (hr.no hf) hI.cs (by have := hI.cl; omega))
  have HC := hid (fun w1 (hf : Frm No w w1) => rclone_inv (hr.no hf) hI)
  have hcl := hI.cl
  obtain ⟨mao, mcp, cao, ccp, rfl, rfl⟩ := hr.shapes
  obtain ⟨ml, hmle⟩ : ∃ ml, R.mems.length = ml := ⟨_, rfl⟩
  rw [hmle] at HK HC ⊢
  obtain ⟨cl, hcle⟩ : ∃ cl, R.clss.length = cl := ⟨_, rfl⟩
  rw [hcle] at hcl HK HC ⊢
  have HCLE := hid hcle
  have HMLE := hid hmle
  clear hr hcle hmle
  cases h2 : has Cls.name R.clss c
  · as_aux_lemma =>
    have he : close R c = (Roll.nil, 10) := by unfold close; rw [if_pos h2]
    rw [h2] at HK
    rw [he]
    clear he h2 HC hI HMLE HCLE
    generalize place Cls.name R.clss c = p at *
    go_enter Tryz.func23, Tryz.ntmps23
    go_upto_region 1 with fail
    have X0 := Box.new (Frm.refl No w) [.slice mao ml mcp, .slice cao cl ccp] 27
    have X1 := Box.new X0.frm [.slice none 0 0, .slice none 0 0] 27
    have Y0 := X0.no ((Frm.refl No _).alloc (.cells #[.slice none 0 0, .slice none 0 0] 27))
    simp only [World.size_alloc] at X1
    obtain ⟨W, hW⟩ : ∃ W, W = (w.alloc (.cells #[.slice mao ml mcp, .slice cao cl ccp] 27)).alloc (.cells #[.slice none 0 0, .slice none 0 0] 27) := ⟨_, rfl⟩
    rw [← hW] at X1 Y0 ⊢
    clear hW
    obtain ⟨b, hb⟩ : ∃ b, w.heap.size = b := ⟨_, rfl⟩
    rw [hb] at X1 Y0
    simp only [hb]
    have F1 := X1.frm
    have HX1 := hid X1
    have HY0 := hid Y0
    have cW := Y0.cell
    clear X0 X1 Y0
    go_wp2_with (first | (go_at_call 49; refine (HK.out _ F1).mono ?_; rintro e w1 ⟨rfl, hf1⟩; have BX := HX1.out.no hf1; have cX := BX.cell; have fX := BX.fr; have BY := HY0.out.no hf1; have cY := BY.cell))
    have BX4 := (BX.set 0 (by simp) (.slice none 0 0)).set 1 (by simp) (.slice none 0 0)
    have e0 := BX4.cell 0
    have e1 := BX4.cell 1
    simp only [List.set_cons_zero, List.set_cons_succ, List.getElem?_cons_zero, List.getElem?_cons_succ] at e0 e1
    refine bodyPost_ret (v := .tuple #[.agg #[.slice none 0 0, .slice none 0 0], .int .i64 10]) (by simp [results, Tryz.results23, go_sem, e0, e1]) rfl ⟨_, _, rfl, nil_rd _, BX4.frm⟩
  · as_aux_lemma =>
    have he : close R c = (⟨R.mems, R.clss.eraseIdx (place Cls.name R.clss c)⟩, 0) := by unfold close; rw [if_neg (by rw [h2]; decide)]
    rw [h2] at HK
    rw [he]
    have hp : place Cls.name R.clss c < cl := by obtain ⟨h, -⟩ := (has_at hI.cs).1 h2; rw [← HCLE.out]; exact h
    clear he h2 hI
    obtain ⟨p, hpe⟩ : ∃ p, place Cls.name R.clss c = p := ⟨_, rfl⟩
    simp only [hpe] at HK hp ⊢
    clear hpe
    go_enter Tryz.func23, Tryz.ntmps23
    go_upto_region 1 with fail
    have X0 := Box.new (Frm.refl No w) [.slice mao ml mcp, .slice cao cl ccp] 27
    have X1 := Box.new X0.frm [.slice none 0 0, .slice none 0 0] 27
    have Y0 := X0.no ((Frm.refl No _).alloc (.cells #[.slice none 0 0, .slice none 0 0] 27))
    simp only [World.size_alloc] at X1
    obtain ⟨W, hW⟩ : ∃ W, W = (w.alloc (.cells #[.slice mao ml mcp, .slice cao cl ccp] 27)).alloc (.cells #[.slice none 0 0, .slice none 0 0] 27) := ⟨_, rfl⟩
    rw [← hW] at X1 Y0 ⊢
    clear hW
    obtain ⟨b, hb⟩ : ∃ b, w.heap.size = b := ⟨_, rfl⟩
    rw [hb] at X1 Y0
    simp only [hb]
    have F1 := X1.frm
    have HX1 := hid X1
    have HY0 := hid Y0
    have cW := Y0.cell
    clear X0 X1 Y0
    go_upto_region 5 with (first | (go_at_call 49; refine (HK.out _ F1).mono ?_; rintro e w1 ⟨rfl, hf1⟩; have BX := HX1.out.no hf1; have cX := BX.cell; have fX := BX.fr; have BY := HY0.out.no hf1; have cY := BY.cell) | (go_at_call 55; refine (HC.out _ BY.frm).mono ?_; rintro e w4 ⟨mv2, cv2, cs2, rfl, hO, hf4⟩; obtain ⟨mao2, mcp2, rfl⟩ := ownsRow_shape hO.mo; obtain ⟨cao2, ccp2, rfl⟩ := ownsRow_shape hO.co))
    have hmle := HMLE.out
    have HO := hid hO
    rw [hmle]
    have hc2 : cs2.length = cl := by have := congrArg List.length hO.fst; simp only [List.length_map] at this; rw [this]; exact HCLE.out
    rw [hc2]
    have BX2 := BX.no hf4
    have X12 := Box.new BX2.frm [.slice mao2 ml mcp2, .slice cao2 cl ccp2] 27
    have BX5 := BX2.no ((Frm.refl No w4).alloc (.cells #[.slice mao2 ml mcp2, .slice cao2 cl ccp2] 27))
    have hOa := hO.no ((Frm.refl No w4).alloc (.cells #[.slice mao2 ml mcp2, .slice cao2 cl ccp2] 27))
    have hlt := hO.lt
    rw [hmle, hc2] at hOa hlt
    obtain ⟨WA, hWA⟩ : ∃ WA, WA = w4.alloc (.cells #[.slice mao2 ml mcp2, .slice cao2 cl ccp2] 27) := ⟨_, rfl⟩
    have hsA : WA.heap.size = w4.heap.size + 1 := by rw [hWA]; simp
    rw [← hWA] at X12 BX5 hOa ⊢
    clear hWA
    obtain ⟨C, hC⟩ : ∃ C, w4.heap.size = C := ⟨_, rfl⟩
    rw [hC] at X12 hsA hlt
    simp only [hC]
    have h12 : w1.heap.size ≤ C := by rw [← hC]; exact hf4.size
    have hbB : b + 1 < w1.heap.size := BX.lC
    have c12 := X12.cell
    have HB5 := hid BX5
    have HX12 := hid X12
    have HOA := hid hOa
    have HLT := hid hlt
    have HSA := hid hsA
    have HC2 := hid hc2
    clear hO hlt X12 BX5 BX2 BX cX fX BY cY cW HC HK HX1 HY0 hmle hOa HO hsA hc2
    have HI2 := hid (delete_cls w1.heap.size (.slice cao2 cl ccp2) cs2 p WA (by have := HOA.out.co; simp only [HC2.out] at this ⊢; exact this) (by rw [HC2.out]; exact hp) (by rw [HC2.out]; omega))
    simp only [HC2.out] at HI2
    go_upto_region 6 with (go_at_call 62; refine HI2.out.mono ?_; rintro e w5 ⟨v3, rfl, hrow3, hown3, hfA⟩; obtain ⟨ao3, cp3, rfl⟩ := ownsRow_shape hrow3; have B12 := HX12.out.other hfA (fun e => by have := (HLT.out.2.1 _ e).2; omega) (fun k hk => by have := (HLT.out.2.1 k hk).1; omega); have B6 := HB5.out.other hfA (fun e => by have := (HLT.out.2.1 _ e).1; omega) (fun k hk => by have := (HLT.out.2.1 k hk).1; omega); have k12 := B12.cell; have g12 := B12.fr)
    have hO3 := HOA.out.setC (cs' := cs2.eraseIdx p) hfA (by
        have e : (cs2.eraseIdx p).length = cl - 1 := by
          have := HC2.out
          rw [List.length_eraseIdx, if_pos (by omega)]
          omega
        rw [e]; exact hrow3) (.inl hown3) (fun q hq => .inl (List.mem_of_mem_eraseIdx hq)) (HOA.out.dss.sublist (List.eraseIdx_sublist _ _))
    have HRL : Hid ((⟨R.mems, (cs2.eraseIdx p).map (·.1)⟩ : Rl) = ⟨R.mems, R.clss.eraseIdx p⟩) := hid (by rw [← HOA.out.fst, map_erase])
    have hv3 : ∀ k, (Value.slice ao3 (cl - 1) cp3).ownBlock = some k → w1.heap.size ≤ k ∧ k ≠ C := fun k hk => by
      rw [hown3] at hk
      have := HLT.out.2.1 k hk
      omega
    have B12s := B12.set 1 (by simp) (.slice ao3 (cl - 1) cp3)
    have B6s := B6.setOther (D := C) B12.hC (by omega) 1 (.slice ao3 (cl - 1) cp3)
    have hFs : Frm (One C) w5 (w5.setCell ⟨C, 1, none⟩ (.slice ao3 (cl - 1) cp3)) := setCell_own _
    generalize w5.setCell ⟨C, 1, none⟩ (.slice ao3 (cl - 1) cp3) = w6 at *
    have k12s := B12s.cell
    have k6 := B6s.cell
    have g6 := B6s.fr
    simp only [List.set_cons_zero, List.set_cons_succ] at k12s
    clear k12 g12 c12 HI2 hrow3 hfA
    go_wp2_with fail
    have B6t := (B6s.set 0 (by simp) (.slice mao2 ml mcp2)).set 1 (by simp) (.slice ao3 (cl - 1) cp3)
    have hFt : Frm (One (b + 1)) w6 ((w6.setCell ⟨b + 1, 0, none⟩ (.slice mao2 ml mcp2)).setCell ⟨b + 1, 1, none⟩ (.slice ao3 (cl - 1) cp3)) := (setCell_own _).then_ (setCell_own _)
    have e0 := B6t.cell 0
    have e1 := B6t.cell 1
    simp only [List.set_cons_zero, List.set_cons_succ, List.getElem?_cons_zero, List.getElem?_cons_succ] at e0 e1
    generalize (w6.setCell ⟨b + 1, 0, none⟩ (.slice mao2 ml mcp2)).setCell ⟨b + 1, 1, none⟩ (.slice ao3 (cl - 1) cp3) = w7 at *
    have hO5 := (hO3.frm hFs (fun k hk e => by have e : k = C := e; have := (HLT.out.1 k hk).2; omega) (fun k hk e => (hv3 k hk).2 e) (fun q hq k hk e => by have e : k = C := e; have := (HLT.out.2.2 q (List.mem_of_mem_eraseIdx hq) k hk).2; omega)).frm hFt (fun k hk e => by have e : k = b + 1 := e; have := (HLT.out.1 k hk).1; omega) (fun k hk e => by have e : k = b + 1 := e; have := (hv3 k hk).1; omega) (fun q hq k hk e => by have e : k = b + 1 := e; have := (HLT.out.2.2 q (List.mem_of_mem_eraseIdx hq) k hk).1; omega)
    rw [HRL.out] at hO5
    refine bodyPost_ret (v := .tuple #[.agg #[.slice mao2 ml mcp2, .slice ao3 (cl - 1) cp3], .int .i64 0]) (by simp [results, Tryz.results23, go_sem, e0, e1]) rfl ⟨_, _, rfl, hO5.rd, B6t.frm⟩

set_option maxRecDepth 100000 in
set_option maxHeartbeats 4000000 in
theorem rgrant_any (R : Rl) (mv cv : Value) (n : B) (q : Int) (w : World) (hr : RlR w mv cv R) (hI : Inv R) :
    Calls Tryz.prog 22 #[.agg #[mv, cv], .string ⟨n.toArray⟩, .int .i64 q] w (DeedP w (grant R n q)) := by
  have HK := hid (fun w1 (hf : Frm No w w1) => member_any R mv cv n w1 (hr.no hf) hI.ms (by have := hI.ml; omega))
  have HC := hid (fun w1 (hf : Frm No w w1) => rclone_inv (hr.no hf) hI)
  have hml := hI.ml
  obtain ⟨mao, mcp, cao, ccp, rfl, rfl⟩ := hr.shapes
  obtain ⟨ml, hmle⟩ : ∃ ml, R.mems.length = ml := ⟨_, rfl⟩
  rw [hmle] at hml HK HC ⊢
  obtain ⟨cl, hcle⟩ : ∃ cl, R.clss.length = cl := ⟨_, rfl⟩
  rw [hcle] at HK HC ⊢
  have HCLE := hid hcle
  have HMLE := hid hmle
  clear hr hcle hmle
  cases h2 : has Mem.name R.mems n
  · as_aux_lemma =>
    have he : grant R n q = (Roll.nil, 10) := by unfold grant; rw [if_pos h2]
    rw [h2] at HK
    rw [he]
    clear he h2 HC hI HMLE HCLE
    generalize place Mem.name R.mems n = p at *
    go_enter Tryz.func22, Tryz.ntmps22
    go_upto_region 1 with fail
    have X0 := Box.new (Frm.refl No w) [.slice mao ml mcp, .slice cao cl ccp] 27
    have X1 := Box.new X0.frm [.slice none 0 0, .slice none 0 0] 27
    have Y0 := X0.no ((Frm.refl No _).alloc (.cells #[.slice none 0 0, .slice none 0 0] 27))
    simp only [World.size_alloc] at X1
    obtain ⟨W, hW⟩ : ∃ W, W = (w.alloc (.cells #[.slice mao ml mcp, .slice cao cl ccp] 27)).alloc (.cells #[.slice none 0 0, .slice none 0 0] 27) := ⟨_, rfl⟩
    rw [← hW] at X1 Y0 ⊢
    clear hW
    obtain ⟨b, hb⟩ : ∃ b, w.heap.size = b := ⟨_, rfl⟩
    rw [hb] at X1 Y0
    simp only [hb]
    have F1 := X1.frm
    have HX1 := hid X1
    have HY0 := hid Y0
    have cW := Y0.cell
    clear X0 X1 Y0
    go_wp2_with (first | (go_at_call 48; refine (HK.out _ F1).mono ?_; rintro e w1 ⟨rfl, hf1⟩; have BX := HX1.out.no hf1; have cX := BX.cell; have fX := BX.fr; have BY := HY0.out.no hf1; have cY := BY.cell))
    have BX4 := (BX.set 0 (by simp) (.slice none 0 0)).set 1 (by simp) (.slice none 0 0)
    have e0 := BX4.cell 0
    have e1 := BX4.cell 1
    simp only [List.set_cons_zero, List.set_cons_succ, List.getElem?_cons_zero, List.getElem?_cons_succ] at e0 e1
    refine bodyPost_ret (v := .tuple #[.agg #[.slice none 0 0, .slice none 0 0], .int .i64 10]) (by simp [results, Tryz.results22, go_sem, e0, e1]) rfl ⟨_, _, rfl, nil_rd _, BX4.frm⟩
  rw [h2] at HK
  by_cases h3 : q < 0 ∨ 65536 < q
  · as_aux_lemma =>
    have he : grant R n q = (Roll.nil, 1) := by unfold grant; rw [if_neg (by rw [h2]; decide), if_pos h3]
    rw [he]
    clear he h2 HC hI HMLE HCLE
    generalize place Mem.name R.mems n = p at *
    rcases (show q < 0 ∨ (¬ q < 0 ∧ 65536 < q) by omega) with h3a | ⟨h3a, h3b⟩
    · clear h3
      go_enter Tryz.func22, Tryz.ntmps22
      go_upto_region 1 with fail
      have X0 := Box.new (Frm.refl No w) [.slice mao ml mcp, .slice cao cl ccp] 27
      have X1 := Box.new X0.frm [.slice none 0 0, .slice none 0 0] 27
      have Y0 := X0.no ((Frm.refl No _).alloc (.cells #[.slice none 0 0, .slice none 0 0] 27))
      simp only [World.size_alloc] at X1
      obtain ⟨W, hW⟩ : ∃ W, W = (w.alloc (.cells #[.slice mao ml mcp, .slice cao cl ccp] 27)).alloc (.cells #[.slice none 0 0, .slice none 0 0] 27) := ⟨_, rfl⟩
      rw [← hW] at X1 Y0 ⊢
      clear hW
      obtain ⟨b, hb⟩ : ∃ b, w.heap.size = b := ⟨_, rfl⟩
      rw [hb] at X1 Y0
      simp only [hb]
      have F1 := X1.frm
      have HX1 := hid X1
      have HY0 := hid Y0
      have cW := Y0.cell
      clear X0 X1 Y0
      go_wp2_with (first | (go_at_call 48; refine (HK.out _ F1).mono ?_; rintro e w1 ⟨rfl, hf1⟩; have BX := HX1.out.no hf1; have cX := BX.cell; have fX := BX.fr; have BY := HY0.out.no hf1; have cY := BY.cell))
      have BX4 := (BX.set 0 (by simp) (.slice none 0 0)).set 1 (by simp) (.slice none 0 0)
      have e0 := BX4.cell 0
      have e1 := BX4.cell 1
      simp only [List.set_cons_zero, List.set_cons_succ, List.getElem?_cons_zero, List.getElem?_cons_succ] at e0 e1
      refine bodyPost_ret (v := .tuple #[.agg #[.slice none 0 0, .slice none 0 0], .int .i64 1]) (by simp [results, Tryz.results22, go_sem, e0, e1]) rfl ⟨_, _, rfl, nil_rd _, BX4.frm⟩
    · clear h3
      go_enter Tryz.func22, Tryz.ntmps22
      go_upto_region 1 with fail
      have X0 := Box.new (Frm.refl No w) [.slice mao ml mcp, .slice cao cl ccp] 27
      have X1 := Box.new X0.frm [.slice none 0 0, .slice none 0 0] 27
      have Y0 := X0.no ((Frm.refl No _).alloc (.cells #[.slice none 0 0, .slice none 0 0] 27))
      simp only [World.size_alloc] at X1
      obtain ⟨W, hW⟩ : ∃ W, W = (w.alloc (.cells #[.slice mao ml mcp, .slice cao cl ccp] 27)).alloc (.cells #[.slice none 0 0, .slice none 0 0] 27) := ⟨_, rfl⟩
      rw [← hW] at X1 Y0 ⊢
      clear hW
      obtain ⟨b, hb⟩ : ∃ b, w.heap.size = b := ⟨_, rfl⟩
      rw [hb] at X1 Y0
      simp only [hb]
      have F1 := X1.frm
      have HX1 := hid X1
      have HY0 := hid Y0
      have cW := Y0.cell
      clear X0 X1 Y0
      go_wp2_with (first | (go_at_call 48; refine (HK.out _ F1).mono ?_; rintro e w1 ⟨rfl, hf1⟩; have BX := HX1.out.no hf1; have cX := BX.cell; have fX := BX.fr; have BY := HY0.out.no hf1; have cY := BY.cell))
      have BX4 := (BX.set 0 (by simp) (.slice none 0 0)).set 1 (by simp) (.slice none 0 0)
      have e0 := BX4.cell 0
      have e1 := BX4.cell 1
      simp only [List.set_cons_zero, List.set_cons_succ, List.getElem?_cons_zero, List.getElem?_cons_succ] at e0 e1
      refine bodyPost_ret (v := .tuple #[.agg #[.slice none 0 0, .slice none 0 0], .int .i64 1]) (by simp [results, Tryz.results22, go_sem, e0, e1]) rfl ⟨_, _, rfl, nil_rd _, BX4.frm⟩
  as_aux_lemma =>
  have h3a : ¬ q < 0 := fun h => h3 (.inl h)
  have h3b : ¬ 65536 < q := fun h => h3 (.inr h)
  obtain ⟨hpl, hpn⟩ := (has_at hI.ms).1 h2
  have hset := set_at hI.ms (fun m => (⟨m.name, m.role, q⟩ : Mem)) hpl hpn
  have he : grant R n q = (⟨R.mems.set (place Mem.name R.mems n) ⟨(R.mems[place Mem.name R.mems n]).name, (R.mems[place Mem.name R.mems n]).role, q⟩, R.clss⟩, 0) := by unfold grant; rw [if_neg (by rw [h2]; decide), if_neg h3, ← hset]
  rw [he]
  clear he h2 h3 hset hpn hI
  obtain ⟨p, hpe⟩ : ∃ p, place Mem.name R.mems n = p := ⟨_, rfl⟩
  simp only [hpe] at HK hpl ⊢
  obtain ⟨⟨nm, ro, qq⟩, hx⟩ : ∃ x, R.mems[p]'hpl = x := ⟨_, rfl⟩
  simp only [hx]
  have HXE := hid hx
  clear hx
  have hp : p < ml := by rw [← HMLE.out]; exact hpl
  have hpz : (p : Int) < (ml : Int) := by omega
  have HPL := hid hpl
  go_enter Tryz.func22, Tryz.ntmps22
  go_upto_region 1 with fail
  have X0 := Box.new (Frm.refl No w) [.slice mao ml mcp, .slice cao cl ccp] 27
  have X1 := Box.new X0.frm [.slice none 0 0, .slice none 0 0] 27
  have Y0 := X0.no ((Frm.refl No _).alloc (.cells #[.slice none 0 0, .slice none 0 0] 27))
  simp only [World.size_alloc] at X1
  obtain ⟨W, hW⟩ : ∃ W, W = (w.alloc (.cells #[.slice mao ml mcp, .slice cao cl ccp] 27)).alloc (.cells #[.slice none 0 0, .slice none 0 0] 27) := ⟨_, rfl⟩
  rw [← hW] at X1 Y0 ⊢
  clear hW
  obtain ⟨b, hb⟩ : ∃ b, w.heap.size = b := ⟨_, rfl⟩
  rw [hb] at X1 Y0
  simp only [hb]
  have F1 := X1.frm
  have HX1 := hid X1
  have HY0 := hid Y0
  have cW := Y0.cell
  clear X0 X1 Y0
  go_upto_region 7 with (first | (go_at_call 48; refine (HK.out _ F1).mono ?_; rintro e w1 ⟨rfl, hf1⟩; have BX := HX1.out.no hf1; have cX := BX.cell; have fX := BX.fr; have BY := HY0.out.no hf1; have cY := BY.cell) | (go_at_call 55; refine (HC.out _ BY.frm).mono ?_; rintro e w4 ⟨mv2, cv2, cs2, rfl, hO, hf4⟩; obtain ⟨mao2, mcp2, rfl⟩ := ownsRow_shape hO.mo; obtain ⟨cao2, ccp2, rfl⟩ := ownsRow_shape hO.co))
  have hmle := HMLE.out
  have HO := hid hO
  rw [hmle]
  have hc2 : cs2.length = cl := by have := congrArg List.length hO.fst; simp only [List.length_map] at this; rw [this]; exact HCLE.out
  rw [hc2]
  have BX2 := BX.no hf4
  have X12 := Box.new BX2.frm [.slice mao2 ml mcp2, .slice cao2 cl ccp2] 27
  have BX5 := BX2.no ((Frm.refl No w4).alloc (.cells #[.slice mao2 ml mcp2, .slice cao2 cl ccp2] 27))
  have hOa := hO.no ((Frm.refl No w4).alloc (.cells #[.slice mao2 ml mcp2, .slice cao2 cl ccp2] 27))
  have hlt := hO.lt
  rw [hmle, hc2] at hOa hlt
  obtain ⟨WA, hWA⟩ : ∃ WA, WA = w4.alloc (.cells #[.slice mao2 ml mcp2, .slice cao2 cl ccp2] 27) := ⟨_, rfl⟩
  have hsA : WA.heap.size = w4.heap.size + 1 := by rw [hWA]; simp
  rw [← hWA] at X12 BX5 hOa ⊢
  clear hWA
  obtain ⟨C, hC⟩ : ∃ C, w4.heap.size = C := ⟨_, rfl⟩
  rw [hC] at X12 hsA hlt
  simp only [hC]
  have h12 : w1.heap.size ≤ C := by rw [← hC]; exact hf4.size
  have hbB : b + 1 < w1.heap.size := BX.lC
  have c12 := X12.cell
  have HB5 := hid BX5
  have HX12 := hid X12
  have HOA := hid hOa
  have HLT := hid hlt
  have HSA := hid hsA
  have HC2 := hid hc2
  clear hO hlt X12 BX5 BX2 BX cX fX BY cY cW HC HK HX1 HY0 hmle hOa HO hsA hc2
  have hmo := HOA.out.mo
  rw [HMLE.out] at hmo
  obtain ⟨g, cap, hv2, hbg, hgl, hnc, hgc, hgf⟩ := own_at memS (l := R.mems) (by rw [HMLE.out]; exact hmo) HPL.out
  rw [HMLE.out] at hv2 hnc
  simp only [Value.slice.injEq, true_and] at hv2
  obtain ⟨rfl, rfl⟩ := hv2
  have q2 : ∃ z, WA.cell? ⟨g, p * 3 + 2, none⟩ = some z := ⟨_, hgc 2 (by omega)⟩
  obtain ⟨z2, q2⟩ := q2
  have hgf2 := hgf (p * 3 + 2)
  have hgC : g ≠ C := fun e => by have := (HLT.out.1 g rfl).2; omega
  have hgb : w1.heap.size ≤ g := (HLT.out.1 g rfl).1
  have hset := own_set memS Tryz.prog (base := w1.heap.size) (l := R.mems) (by rw [HMLE.out]; exact hmo) HPL.out (j := 2) (by omega) (x := .int .i64 q) rfl (y := ⟨nm, ro, q⟩) (by rw [HXE.out]; rfl)
  rw [HMLE.out] at hset
  have hFA : Frm (Own (.slice (some ⟨g, 0, none⟩) ml mcp2)) WA (WA.setCell ⟨g, p * 3 + 2, none⟩ (.int .i64 q)) := (setCell_own (.int .i64 q)).weak (fun k _ e => by have e : k = g := e; subst e; rfl)
  have hO3 := HOA.out.setM hFA (R.mems.set p ⟨nm, ro, q⟩) (by rw [List.length_set, HMLE.out]; exact hset) (.inl rfl)
  have B12s := HX12.out.setOther (D := g) (by have := HB5.out.frm.size; have := HX12.out.hC; have hbw := HB5.out.hC; omega) (fun e => hgC e.symm) (p * 3 + 2) (.int .i64 q)
  have B6s := HB5.out.setOther (D := g) (by have hbw := HB5.out.hC; omega) (by omega) (p * 3 + 2) (.int .i64 q)
  have HO3 := hid hO3
  clear hO3 hset hmo hgc hgf hFA
  go_upto_region 8 with fail
  generalize WA.setCell ⟨g, p * 3 + 2, none⟩ (.int .i64 q) = w6 at *
  have k12s := B12s.cell
  have k6 := B6s.cell
  have g6 := B6s.fr
  clear c12 q2 hgf2
  go_wp2_with fail
  have B6t := (B6s.set 0 (by simp) (.slice (some ⟨g, 0, none⟩) ml mcp2)).set 1 (by simp) (.slice cao2 cl ccp2)
  have hFt : Frm (One (b + 1)) w6 ((w6.setCell ⟨b + 1, 0, none⟩ (.slice (some ⟨g, 0, none⟩) ml mcp2)).setCell ⟨b + 1, 1, none⟩ (.slice cao2 cl ccp2)) := (setCell_own _).then_ (setCell_own _)
  have e0 := B6t.cell 0
  have e1 := B6t.cell 1
  simp only [List.set_cons_zero, List.set_cons_succ, List.getElem?_cons_zero, List.getElem?_cons_succ] at e0 e1
  generalize (w6.setCell ⟨b + 1, 0, none⟩ (.slice (some ⟨g, 0, none⟩) ml mcp2)).setCell ⟨b + 1, 1, none⟩ (.slice cao2 cl ccp2) = w7 at *
  obtain ⟨l1, l2, l3⟩ := HO3.out.lt
  have hO5 := HO3.out.frm hFt (fun k hk e => by have e : k = b + 1 := e; have := (l1 k hk).1; omega) (fun k hk e => by have e : k = b + 1 := e; have := (l2 k hk).1; omega) (fun r hr k hk e => by have e : k = b + 1 := e; have := (l3 r hr k hk).1; omega)
  refine bodyPost_ret (v := .tuple #[.agg #[.slice (some ⟨g, 0, none⟩) ml mcp2, .slice cao2 cl ccp2], .int .i64 0]) (by simp [results, Tryz.results22, go_sem, e0, e1]) rfl ⟨_, _, rfl, hO5.rd, B6t.frm⟩
end Go.Proofs.YtofcmghhmklmiaaGreat
