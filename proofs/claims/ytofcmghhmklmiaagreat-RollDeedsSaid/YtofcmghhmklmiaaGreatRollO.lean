/- Leave. Printed by a program (rollo.py). -/
import Derived.Test.YtofcmghhmklmiaaGreatRollN
import Derived.Test.YtofcmghhmklmiaaGreatRollI
namespace Go.Proofs.YtofcmghhmklmiaaGreat
open Go.RowKit
open Roll
/-- A class without a student. -/
def lvc (n : B) (c : Cls) : Cls := ⟨c.name, c.teacher, flt n c.students⟩
/-- The first i of the classes are without the student. -/
def lvl (n : B) (l : List Cls) (i : Nat) : List Cls := (l.take i).map (lvc n) ++ l.drop i
theorem lvl_len (n : B) (l : List Cls) (i : Nat) : (lvl n l i).length = l.length := by simp [lvl]; omega
theorem lvl_zero (n : B) (l : List Cls) : lvl n l 0 = l := by simp [lvl]
theorem lvl_all (n : B) (l : List Cls) : lvl n l l.length = l.map (lvc n) := by simp [lvl]
theorem lvl_at (n : B) (l : List Cls) (i : Nat) (h : i < l.length) : (lvl n l i)[i]'(by rw [lvl_len]; exact h) = l[i] := by
  unfold lvl
  exact app_at _ l i (by simp; omega) h (by simp; omega)
theorem lvl_set (n : B) (l : List Cls) (i : Nat) (h : i < l.length) : (lvl n l i).set i (lvc n l[i]) = lvl n l (i + 1) := by
  unfold lvl
  rw [take_drop_set _ l i _ (by simp; omega) h, List.take_succ_eq_append_getElem h, List.map_append]
  rfl
theorem any_teacher (cs : List CV) (n : B) : (cs.any fun x => x.1.teacher == n) = has Cls.teacher (cs.map (·.1)) n := by
  unfold has
  rw [List.any_map]
  congr 1
  funext x
  rw [Bool.eq_iff_iff]
  simp
theorem leave_eq (R : Rl) (n : B) (h2 : has Mem.name R.mems n = true) (h3 : has Cls.teacher R.clss n = false) : leave R n = (⟨R.mems.eraseIdx (place Mem.name R.mems n), R.clss.map (lvc n)⟩, 0) := by
  unfold leave
  rw [if_neg (by rw [h2]; decide), if_neg (by rw [h3]; decide)]
  rfl
set_option maxRecDepth 100000 in
set_option maxHeartbeats 4000000 in
theorem rleave_any (R : Rl) (mv cv : Value) (n : B) (w : World) (hr : RlR w mv cv R) (hI : Inv R) :
    Calls Tryz.prog 21 #[.agg #[mv, cv], .string ⟨n.toArray⟩] w (DeedP w (leave R n)) := by
  have HK := hid (fun w1 (hf : Frm No w w1) => member_any R mv cv n w1 (hr.no hf) hI.ms (by have := hI.ml; omega))
  have HC := hid (fun w1 (hf : Frm No w w1) => rclone_inv (hr.no hf) hI)
  have HCF : Hid (∀ w1, Frm No w w1 → ∀ p1, w1.cell? ⟨p1, 0, none⟩ = some (.string ⟨n.toArray⟩) → Calls Tryz.prog 51 #[cv, .func (.func 58) #[] #[.pointer (some ⟨p1, 0, none⟩)]] w1 fun e w' => e = .returned (.bool (has Cls.teacher R.clss n)) ∧ Frm No w1 w') := hid fun w1 hf p1 h1 => by
    obtain ⟨cs, hfs, hc, hst⟩ := hr.cr
    rw [← hfs, ← any_teacher]
    have hcl := hI.cl
    have hcsl : cs.length = R.clss.length := by rw [← hfs]; simp
    exact cf_leave (fun c => c.teacher == n) cs cv p1 w1 (hc.frm (fun _ _ => rfl) hf (fun _ _ h => h)) (by omega)
      (fun x hx w2 hf2 => lc_any x n p1 w2 ((hf2.cell (p := ⟨p1, 0, none⟩) (World.block_lt_of_cell? w1 _ h1) (fun h => h)).trans h1))
  have hml := hI.ml
  have hcl0 := hI.cl
  obtain ⟨mao, mcp, cao, ccp, rfl, rfl⟩ := hr.shapes
  obtain ⟨ml, hmle⟩ : ∃ ml, R.mems.length = ml := ⟨_, rfl⟩
  rw [hmle] at hml HK HC ⊢
  obtain ⟨cl, hcle⟩ : ∃ cl, R.clss.length = cl := ⟨_, rfl⟩
  rw [hcle] at HK HC HCF hcl0 ⊢
  have HCLE := hid hcle
  have HMLE := hid hmle
  clear hr hcle hmle
  cases h2 : has Mem.name R.mems n
  · as_aux_lemma =>
    have he : leave R n = (Roll.nil, 10) := by unfold leave; rw [if_pos h2]
    rw [h2] at HK
    rw [he]
    clear he h2 HC hI HMLE HCLE HCF
    generalize place Mem.name R.mems n = p at *
    go_enter Tryz.func21, Tryz.ntmps21
    go_upto_region 1 with fail
    have X0 := Box.new (Frm.refl No w) [.slice mao ml mcp, .slice cao cl ccp] 27
    have Xn := Box.new X0.frm [.string ⟨n.toArray⟩] 9
    have X1 := Box.new Xn.frm [.slice none 0 0, .slice none 0 0] 27
    have Yn := Xn.no ((Frm.refl No _).alloc (.cells #[.slice none 0 0, .slice none 0 0] 27))
    have Y0 := (X0.no ((Frm.refl No _).alloc (.cells #[.string ⟨n.toArray⟩] 9))).no ((Frm.refl No _).alloc (.cells #[.slice none 0 0, .slice none 0 0] 27))
    simp only [World.size_alloc] at X1 Yn
    obtain ⟨W, hW⟩ : ∃ W, W = ((w.alloc (.cells #[.slice mao ml mcp, .slice cao cl ccp] 27)).alloc (.cells #[.string ⟨n.toArray⟩] 9)).alloc (.cells #[.slice none 0 0, .slice none 0 0] 27) := ⟨_, rfl⟩
    rw [← hW] at X1 Yn Y0 ⊢
    clear hW
    obtain ⟨b, hb⟩ : ∃ b, w.heap.size = b := ⟨_, rfl⟩
    rw [hb] at X1 Y0 Yn
    simp only [hb]
    have F1 := X1.frm
    have HX1 := hid X1
    have HY0 := hid Y0
    have HYn := hid Yn
    have cW := Y0.cell
    have cN := Yn.cell
    clear X0 X1 Xn Y0 Yn
    go_wp2_with (first | (go_at_call 48; refine (HK.out _ F1).mono ?_; rintro e w1 ⟨rfl, hf1⟩; have BX := HX1.out.no hf1; have cX := BX.cell; have fX := BX.fr; have BY := HY0.out.no hf1; have cY := BY.cell; have BN := HYn.out.no hf1; have cN1 := BN.cell))
    have BX4 := (BX.set 0 (by simp) (.slice none 0 0)).set 1 (by simp) (.slice none 0 0)
    have e0 := BX4.cell 0
    have e1 := BX4.cell 1
    simp only [List.set_cons_zero, List.set_cons_succ, List.getElem?_cons_zero, List.getElem?_cons_succ] at e0 e1
    refine bodyPost_ret (v := .tuple #[.agg #[.slice none 0 0, .slice none 0 0], .int .i64 10]) (by simp [results, Tryz.results21, go_sem, e0, e1]) rfl ⟨_, _, rfl, nil_rd _, BX4.frm⟩
  rw [h2] at HK
  cases h3 : has Cls.teacher R.clss n
  case true =>
    as_aux_lemma =>
    have he : leave R n = (Roll.nil, 16) := by unfold leave; rw [if_neg (by rw [h2]; decide), if_pos h3]
    rw [he]
    rw [h3] at HCF
    clear he h2 h3 HC hI HMLE HCLE
    generalize place Mem.name R.mems n = p at *
    go_enter Tryz.func21, Tryz.ntmps21
    go_upto_region 1 with fail
    have X0 := Box.new (Frm.refl No w) [.slice mao ml mcp, .slice cao cl ccp] 27
    have Xn := Box.new X0.frm [.string ⟨n.toArray⟩] 9
    have X1 := Box.new Xn.frm [.slice none 0 0, .slice none 0 0] 27
    have Yn := Xn.no ((Frm.refl No _).alloc (.cells #[.slice none 0 0, .slice none 0 0] 27))
    have Y0 := (X0.no ((Frm.refl No _).alloc (.cells #[.string ⟨n.toArray⟩] 9))).no ((Frm.refl No _).alloc (.cells #[.slice none 0 0, .slice none 0 0] 27))
    simp only [World.size_alloc] at X1 Yn
    obtain ⟨W, hW⟩ : ∃ W, W = ((w.alloc (.cells #[.slice mao ml mcp, .slice cao cl ccp] 27)).alloc (.cells #[.string ⟨n.toArray⟩] 9)).alloc (.cells #[.slice none 0 0, .slice none 0 0] 27) := ⟨_, rfl⟩
    rw [← hW] at X1 Yn Y0 ⊢
    clear hW
    obtain ⟨b, hb⟩ : ∃ b, w.heap.size = b := ⟨_, rfl⟩
    rw [hb] at X1 Y0 Yn
    simp only [hb]
    have F1 := X1.frm
    have HX1 := hid X1
    have HY0 := hid Y0
    have HYn := hid Yn
    have cW := Y0.cell
    have cN := Yn.cell
    clear X0 X1 Xn Y0 Yn
    go_wp2_with (first | (go_at_call 48; refine (HK.out _ F1).mono ?_; rintro e w1 ⟨rfl, hf1⟩; have BX := HX1.out.no hf1; have cX := BX.cell; have fX := BX.fr; have BY := HY0.out.no hf1; have cY := BY.cell; have BN := HYn.out.no hf1; have cN1 := BN.cell) | (go_at_call 51; refine (HCF.out _ BX.frm _ (BN.cell 0)).mono ?_; rintro e w2 ⟨rfl, hf2⟩; have BX2 := BX.no hf2; have cX2 := BX2.cell; have fX2 := BX2.fr; have BY2 := BY.no hf2; have cY2 := BY2.cell; have BN2 := BN.no hf2; have cN2 := BN2.cell))
    have BX4 := (BX2.set 0 (by simp) (.slice none 0 0)).set 1 (by simp) (.slice none 0 0)
    have e0 := BX4.cell 0
    have e1 := BX4.cell 1
    simp only [List.set_cons_zero, List.set_cons_succ, List.getElem?_cons_zero, List.getElem?_cons_succ] at e0 e1
    refine bodyPost_ret (v := .tuple #[.agg #[.slice none 0 0, .slice none 0 0], .int .i64 16]) (by simp [results, Tryz.results21, go_sem, e0, e1]) rfl ⟨_, _, rfl, nil_rd _, BX4.frm⟩
  case false =>
    as_aux_lemma =>
    rw [leave_eq R n h2 h3]
    rw [h3] at HCF
    have hp : place Mem.name R.mems n < ml := by obtain ⟨h, -⟩ := (has_at hI.ms).1 h2; rw [← HMLE.out]; exact h
    have HSTU := hid (fun c (hc : c ∈ R.clss) => hI.students hc)
    clear h2 h3 hI
    obtain ⟨p, hpe⟩ : ∃ p, place Mem.name R.mems n = p := ⟨_, rfl⟩
    simp only [hpe] at HK hp ⊢
    clear hpe
    go_enter Tryz.func21, Tryz.ntmps21
    go_upto_region 1 with fail
    have X0 := Box.new (Frm.refl No w) [.slice mao ml mcp, .slice cao cl ccp] 27
    have Xn := Box.new X0.frm [.string ⟨n.toArray⟩] 9
    have X1 := Box.new Xn.frm [.slice none 0 0, .slice none 0 0] 27
    have Yn := Xn.no ((Frm.refl No _).alloc (.cells #[.slice none 0 0, .slice none 0 0] 27))
    have Y0 := (X0.no ((Frm.refl No _).alloc (.cells #[.string ⟨n.toArray⟩] 9))).no ((Frm.refl No _).alloc (.cells #[.slice none 0 0, .slice none 0 0] 27))
    simp only [World.size_alloc] at X1 Yn
    obtain ⟨W, hW⟩ : ∃ W, W = ((w.alloc (.cells #[.slice mao ml mcp, .slice cao cl ccp] 27)).alloc (.cells #[.string ⟨n.toArray⟩] 9)).alloc (.cells #[.slice none 0 0, .slice none 0 0] 27) := ⟨_, rfl⟩
    rw [← hW] at X1 Yn Y0 ⊢
    clear hW
    obtain ⟨b, hb⟩ : ∃ b, w.heap.size = b := ⟨_, rfl⟩
    rw [hb] at X1 Y0 Yn
    simp only [hb]
    have F1 := X1.frm
    have HX1 := hid X1
    have HY0 := hid Y0
    have HYn := hid Yn
    have cW := Y0.cell
    have cN := Yn.cell
    clear X0 X1 Xn Y0 Yn
    go_upto_region 7 with (first | (go_at_call 48; refine (HK.out _ F1).mono ?_; rintro e w1 ⟨rfl, hf1⟩; have BX := HX1.out.no hf1; have cX := BX.cell; have fX := BX.fr; have BY := HY0.out.no hf1; have cY := BY.cell; have BN := HYn.out.no hf1; have cN1 := BN.cell) | (go_at_call 51; refine (HCF.out _ BX.frm _ (BN.cell 0)).mono ?_; rintro e w2 ⟨rfl, hf2⟩; have BX2 := BX.no hf2; have cX2 := BX2.cell; have fX2 := BX2.fr; have BY2 := BY.no hf2; have cY2 := BY2.cell; have BN2 := BN.no hf2; have cN2 := BN2.cell) | (go_at_call 55; refine (HC.out _ BX2.frm).mono ?_; rintro e w4 ⟨mv2, cv2, cs2, rfl, hO, hf4⟩; obtain ⟨mao2, mcp2, rfl⟩ := ownsRow_shape hO.mo; obtain ⟨cao2, ccp2, rfl⟩ := ownsRow_shape hO.co))
    have hmle := HMLE.out
    rw [hmle]
    have hc2 : cs2.length = cl := by have := congrArg List.length hO.fst; simp only [List.length_map] at this; rw [this]; exact HCLE.out
    rw [hc2]
    have BX3 := BX2.no hf4
    have BN3 := BN2.no hf4
    have X12 := Box.new BX3.frm [.slice mao2 ml mcp2, .slice cao2 cl ccp2] 27
    have BX5 := BX3.no ((Frm.refl No w4).alloc (.cells #[.slice mao2 ml mcp2, .slice cao2 cl ccp2] 27))
    have BN5 := BN3.no ((Frm.refl No w4).alloc (.cells #[.slice mao2 ml mcp2, .slice cao2 cl ccp2] 27))
    have hOa := hO.no ((Frm.refl No w4).alloc (.cells #[.slice mao2 ml mcp2, .slice cao2 cl ccp2] 27))
    have hlt := hO.lt
    rw [hmle] at hOa hlt
    obtain ⟨WA, hWA⟩ : ∃ WA, WA = w4.alloc (.cells #[.slice mao2 ml mcp2, .slice cao2 cl ccp2] 27) := ⟨_, rfl⟩
    have hsA : WA.heap.size = w4.heap.size + 1 := by rw [hWA]; simp
    rw [← hWA] at X12 BX5 BN5 hOa ⊢
    clear hWA
    obtain ⟨C, hC⟩ : ∃ C, w4.heap.size = C := ⟨_, rfl⟩
    rw [hC] at X12 hsA hlt
    simp only [hC]
    obtain ⟨B0, hB0⟩ : ∃ B0, w2.heap.size = B0 := ⟨_, rfl⟩
    have h12 : B0 ≤ C := by rw [← hC, ← hB0]; exact hf4.size
    have hbB : b + 1 + 1 < B0 := by rw [← hB0]; exact BX2.lC
    rw [hB0, hc2] at hOa hlt
    have c12 := X12.cell
    have HB5 := hid BX5
    have HN5 := hid BN5
    have HX12 := hid X12
    have HOA := hid hOa
    have HLT := hid hlt
    have HSA := hid hsA
    have HC2 := hid hc2
    clear hO hlt X12 BX5 BX3 BX2 BX BN BN2 BN3 BN5 BY2 cX2 fX2 cY2 cN cN1 cN2 cX fX BY cY cW HC HK HCF HX1 HYn HY0 hmle hOa hsA hc2
    have HI2 := hid (delete_mem B0 (.slice mao2 ml mcp2) R.mems p WA (by have := HOA.out.mo; rw [HMLE.out] at this ⊢; exact this) (by rw [HMLE.out]; exact hp) (by rw [HMLE.out]; omega))
    rw [HMLE.out] at HI2
    go_upto_region 8 with (go_at_call 59; refine HI2.out.mono ?_; rintro e w5 ⟨v3, rfl, hrow3, hown3, hfA⟩; obtain ⟨ao3, cp3, rfl⟩ := ownsRow_shape hrow3; have B12 := HX12.out.other hfA (fun e => by have := (HLT.out.1 _ e).2; omega) (fun k hk => by have := (HLT.out.1 k hk).1; omega); have B6 := HB5.out.other hfA (fun e => by have := (HLT.out.1 _ e).1; omega) (fun k hk => by have := (HLT.out.1 k hk).1; omega); have BN6 := HN5.out.other hfA (fun e => by have := (HLT.out.1 _ e).1; omega) (fun k hk => by have := (HLT.out.1 k hk).1; omega); have k12 := B12.cell; have g12 := B12.fr)
    have hle : (R.mems.eraseIdx p).length = ml - 1 := by rw [List.length_eraseIdx, HMLE.out, if_pos hp]
    have hO3 := HOA.out.setM hfA (R.mems.eraseIdx p) (by rw [hle]; exact hrow3) (.inl hown3)
    have hv3 : ∀ k, (Value.slice ao3 (ml - 1) cp3).ownBlock = some k → B0 ≤ k ∧ k ≠ C := fun k hk => by
      rw [hown3] at hk
      have := HLT.out.1 k hk
      omega
    have B12s := B12.set 0 (by simp) (.slice ao3 (ml - 1) cp3)
    have B6s := B6.setOther (D := C) B12.hC (by omega) 0 (.slice ao3 (ml - 1) cp3)
    have BN6s := BN6.setOther (D := C) B12.hC (by omega) 0 (.slice ao3 (ml - 1) cp3)
    have hFs : Frm (One C) w5 (w5.setCell ⟨C, 0, none⟩ (.slice ao3 (ml - 1) cp3)) := setCell_own _
    generalize w5.setCell ⟨C, 0, none⟩ (.slice ao3 (ml - 1) cp3) = w6 at *
    have hO4 := hO3.frm hFs (fun k hk e => (hv3 k hk).2 e) (fun k hk e => by have e : k = C := e; have := (HLT.out.2.1 k hk).2; omega) (fun q hq k hk e => by have e : k = C := e; have := (HLT.out.2.2 q hq k hk).2; omega)
    have k12s := B12s.cell
    have g12s := B12s.fr
    simp only [List.set_cons_zero] at k12s B12s
    have HO4 : Hid (∃ cs' : List CV, cs'.length = cl ∧ RlO B0 w6 (.slice ao3 (ml - 1) cp3) (.slice cao2 cl ccp2) ⟨R.mems.eraseIdx p, lvl n R.clss 0⟩ cs' ∧ Box w w6 C [.slice ao3 (ml - 1) cp3, .slice cao2 cl ccp2] ∧ Box w w6 (b + 1 + 1) [.slice none 0 0, .slice none 0 0] ∧ Box w w6 (b + 1) [.string ⟨n.toArray⟩] ∧ ∀ q ∈ cs', ¬ Own (sv q) C) := hid ⟨cs2, HC2.out, by rw [lvl_zero]; exact hO4, B12s, B6s, BN6s, fun q hq e => by have := (HLT.out.2.2 q hq C e).2; omega⟩
    have HCV : Hid (¬ Own (.slice cao2 cl ccp2) C) := hid (fun e => by have := (HLT.out.2.1 C e).2; omega)
    have kk := k12s 1
    simp only [List.getElem?_cons_succ, List.getElem?_cons_zero] at kk
    clear k12 g12 c12 HI2 hrow3 hfA hO3 hO4 hFs B12 B12s B6 B6s BN6 BN6s k12s g12s hown3 HLT HB5 HN5 HX12 HOA
    go_upto_region 9 with fail
    clear kk
    go_loopw [9, 10, 39] (fun _ _ k wr => ∃ i : Nat, i ≤ cl ∧ k = .int .i64 (i : Int) ∧ ∃ cs' : List CV, cs'.length = cl ∧ RlO B0 wr (.slice ao3 (ml - 1) cp3) (.slice cao2 cl ccp2) ⟨R.mems.eraseIdx p, lvl n R.clss i⟩ cs' ∧ Box w wr C [.slice ao3 (ml - 1) cp3, .slice cao2 cl ccp2] ∧ Box w wr (b + 1 + 1) [.slice none 0 0, .slice none 0 0] ∧ Box w wr (b + 1) [.string ⟨n.toArray⟩] ∧ ∀ q ∈ cs', ¬ Own (sv q) C)
      (fun _ _ k _ => cl - (intOf k).toNat)
    case atStart => exact ⟨0, by omega, rfl, HO4.out⟩
    case round =>
      clear HO4
      obtain ⟨i, hi, rfl, cs', hcl', hO, hBC, hBX, hBN, hqC⟩ := hrel
      by_cases hil : i < cl
      · as_aux_lemma =>
        have HB := hid hBC
        have HX := hid hBX
        have HN := hid hBN
        have c1 := hBC.cell 1
        simp only [List.getElem?_cons_zero, List.getElem?_cons_succ] at c1
        have hp2 : i < cs'.length := by omega
        have hil2 : i < R.clss.length := by rw [HCLE.out]; exact hil
        obtain ⟨g, cap, hv2, hbg, hgl, hnc, hgc, hgf⟩ := own_at clsS (by have := hO.co; rw [hcl'] at this ⊢; exact this) hp2
        rw [hcl'] at hv2 hnc
        simp only [Value.slice.injEq, true_and] at hv2
        obtain ⟨rfl, rfl⟩ := hv2
        have hx2 : (cs'[i]'hp2).1 = R.clss[i]'hil2 := by
          have h1 := hO.fst
          have h2 : (cs'.map (·.1))[i]'(by simpa using hp2) = (lvl n R.clss i)[i]'(by rw [lvl_len]; exact hil2) := by simp only [h1]
          rw [lvl_at n R.clss i hil2] at h2
          simpa using h2
        have HSL := hid (HSTU.out _ (List.getElem_mem hil2))
        have hLS := hid (lvl_set n R.clss i hil2)
        have HCN := hid (hqC _ (List.getElem_mem hp2))
        have HCG : Hid (C ≠ g) := hid (fun e => HCV.out (by rw [e]; rfl))
        have HQC := hid hqC
        have q0 := hgc 0 (by omega)
        have q1 := hgc 1 (by omega)
        have q2 := hgc 2 (by omega)
        have hso := hO.so _ (List.getElem_mem hp2)
        have HSET := hid (fun (ws : World) (hO' : RlO B0 ws (.slice ao3 (ml - 1) cp3) (.slice (some ⟨g, 0, none⟩) cl ccp2) ⟨R.mems.eraseIdx p, lvl n R.clss i⟩ cs') (w' : World) (hf : Frm (Own (sv (cs'[i]'hp2))) ws w') (l : List B) (ao : Option Addr) (cc : Nat) ho hn => RlO.setS (by rw [hcl']; exact hO') hp2 hf l ao cc ho hn)
        have hdc := hO.dcs _ (List.getElem_mem hp2)
        have hlt := hO.lt
        have hdlt := hlt.2.2 _ (List.getElem_mem hp2)
        have HF2 := hid (fun y => set_fst hO.fst i y)
        rw [← hx2] at HSL hLS
        obtain ⟨y, hy⟩ : ∃ y, cs'[i]'hp2 = y := ⟨_, rfl⟩
        simp only [hy] at HCN HSL hLS q0 q1 q2 hso HSET hdc hdlt
        obtain ⟨⟨yn, yt, ys⟩, yo, yc⟩ := y
        simp only [clsV, List.getElem?_cons_zero, List.getElem?_cons_succ, sv, Nat.add_zero, lvc] at HCN HSL hLS q0 q1 q2 hso hdlt hdc
        have hilz : (i : Int) < (cl : Int) := by omega
        have HO := hid hO
        have HLT := hid hlt
        have HDLT := hid hdlt
        have HDC := hid hdc
        have HSO := hid hso
        have hCl := hBC.lC
        have hNl := hBN.lC
        have cn := hBN.cell 0
        simp only [List.getElem?_cons_zero] at cn
        have HCLL := hid hcl'
        have hBCb := hBC.hC
        have hBXb := hBX.hC
        clear hO hBC hBX hBN hqC hdlt hdc hso hgc hx2 hy hcl' hlt
        go_upto_region 11 with fail
        have BD := Box.new HB.out.frm [.string ⟨yn.toArray⟩, .string ⟨yt.toArray⟩, .slice yo ys.length yc] 53
        have hFr : Frm No wr (wr.alloc (.cells #[.string ⟨yn.toArray⟩, .string ⟨yt.toArray⟩, .slice yo ys.length yc] 53)) := (Frm.refl No wr).alloc _
        obtain ⟨D, hD⟩ : ∃ D, wr.heap.size = D := ⟨_, rfl⟩
        rw [hD] at BD
        simp only [hD]
        obtain ⟨WR, hWR⟩ : ∃ WR, WR = wr.alloc (.cells #[.string ⟨yn.toArray⟩, .string ⟨yt.toArray⟩, .slice yo ys.length yc] 53) := ⟨_, rfl⟩
        simp only [← hWR] at BD hFr ⊢
        clear hWR
        have cD := BD.cell 2
        simp only [List.getElem?_cons_zero, List.getElem?_cons_succ] at cD
        have hDl := BD.lC
        have HO2 := hid (HO.out.no hFr)
        have B2C := HB.out.no hFr
        have B2X := HX.out.no hFr
        have B2N := HN.out.no hFr
        have hCn : ¬ Own (.slice yo ys.length yc) C := fun e => HCN.out e
        have hDn : ¬ Own (.slice yo ys.length yc) D := fun e => by have := (HDLT.out D e).2; omega
        have hgn : ¬ Own (.slice yo ys.length yc) g := fun e => HDC.out g rfl e
        have hNn : ¬ Own (.slice yo ys.length yc) (b + 1) := fun e => by have := (HDLT.out _ e).1; omega
        have hC1 := (hFr.cell (p := ⟨C, 1, none⟩) hCl (fun h => h)).trans c1
        have hG2 := (hFr.cell (p := ⟨g, i * 3 + 2, none⟩) hgl (fun h => h)).trans q2
        have hgf2 := (hFr.frozen (p := ⟨g, i * 3 + 2, none⟩) hgl (fun h => h)).trans (hgf _)
        have hgl2 : g < WR.heap.size := by have := hFr.size; omega
        have hCl2 : C < WR.heap.size := by have := hFr.size; omega
        have SK : Hid (∀ w', Frm (Own (.slice yo ys.length yc)) WR w' → w'.cell? ⟨C, 1, none⟩ = some (.slice (some ⟨g, 0, none⟩) cl ccp2) ∧ w'.cell? ⟨D, 2, none⟩ = some (.slice yo ys.length yc)) := hid fun w' hf => ⟨(hf.cell (p := ⟨C, 1, none⟩) hCl2 hCn).trans hC1, (hf.cell (p := ⟨D, 2, none⟩) hDl hDn).trans cD⟩
        have HGF := hid (fun w' (hf : Frm (Own (.slice yo ys.length yc)) WR w') => (hf.frozen (p := ⟨g, i * 3 + 2, none⟩) hgl2 hgn).trans hgf2)
        have HGC := hid (fun w' (hf : Frm (Own (.slice yo ys.length yc)) WR w') => (hf.cell (p := ⟨g, i * 3 + 2, none⟩) hgl2 hgn).trans hG2)
        have HDF := hid (delf_str B0 (.slice yo ys.length yc) ys n (b + 1) WR.drew (ownsRow_no HSO.out hFr.drew) (by have := HSL.out; omega) ((hFr.cell (p := ⟨b + 1, 0, none⟩) hNl (fun h => h)).trans cn) hNn)
        clear hC1 hG2 hgf2 c1 q0 q1 q2 cn cD HSTU hgf HO HSO HSL
        refine wp_region_late (fun w' => w'.cell? ⟨C, 1, none⟩ = some (.slice (some ⟨g, 0, none⟩) cl ccp2) ∧ w'.cell? ⟨D, 2, none⟩ = some (.slice yo ys.length yc)) [9] (by kernel_rfl) (SK.out _ (Frm.refl _ _).drew) (fun hHeld => ?_)
        refine wpLate_take0 (i := 0) (oi := _) (v := _) rfl (by kernel_rfl) (by kernel_rfl) (by kernel_rfl) (by kernel_rfl) (fun _ _ _ h => h) (Or.inl ⟨by rfl, by intro w _; go_simp; all_goals with_reducible rfl⟩) (fun _ => by assumption) ?_
        (try simp only [Act.put, List.getElem_toArray, List.getElem_cons_zero, List.setIfInBounds_toArray, List.set_cons_zero, List.set_cons_succ])
        refine wpLate_take [7, 8, 9] (i := 1) (oi := _) (v := _) rfl (by kernel_rfl) (by kernel_rfl) (by kernel_rfl) (by kernel_rfl) (by kernel_rfl) (fun _ _ _ h => h) (Or.inl ⟨by rfl, by intro w hSw; (try dsimp only at hSw); go_simp; all_goals with_reducible rfl⟩) (by assumption) ?_
        (try simp only [Act.put, List.getElem_toArray, List.getElem_cons_succ, List.getElem_cons_zero, List.setIfInBounds_toArray, List.set_cons_zero, List.set_cons_succ])
        refine wpLate_take0 (i := 2) (oi := _) (v := _) rfl (by kernel_rfl) (by kernel_rfl) (by kernel_rfl) (by kernel_rfl) (fun _ _ _ h => h) (Or.inl ⟨by rfl, by intro w _; go_simp; all_goals with_reducible rfl⟩) (fun _ => by assumption) ?_
        (try simp only [Act.put, List.getElem_toArray, List.getElem_cons_succ, List.getElem_cons_zero, List.setIfInBounds_toArray, List.set_cons_zero, List.set_cons_succ])
        refine wpLate_take0 (i := 3) (oi := _) (v := _) rfl (by kernel_rfl) (by kernel_rfl) (by kernel_rfl) (by kernel_rfl) (fun _ _ _ h => h) (Or.inl ⟨by rfl, by intro w _; go_simp; all_goals with_reducible rfl⟩) (fun _ => by assumption) ?_
        (try simp only [Act.put, List.getElem_toArray, List.getElem_cons_succ, List.getElem_cons_zero, List.setIfInBounds_toArray, List.set_cons_zero, List.set_cons_succ])
        refine wpLate_take [6, 9] (i := 4) (oi := _) (v := _) rfl (by kernel_rfl) (by kernel_rfl) (by kernel_rfl) (by kernel_rfl) (by kernel_rfl) (fun _ _ _ h => h) (Or.inl ⟨by rfl, by intro w hSw; (try dsimp only at hSw); go_simp; all_goals with_reducible rfl⟩) (by assumption) ?_
        (try simp only [Act.put, List.getElem_toArray, List.getElem_cons_succ, List.getElem_cons_zero, List.setIfInBounds_toArray, List.set_cons_zero, List.set_cons_succ])
        refine wpLate_take0 (i := 5) (oi := _) (v := _) rfl (by kernel_rfl) (by kernel_rfl) (by kernel_rfl) (by kernel_rfl) (fun _ _ _ h => h) (Or.inl ⟨by rfl, by intro w _; go_simp; all_goals with_reducible rfl⟩) (fun _ => by assumption) ?_
        (try simp only [Act.put, List.getElem_toArray, List.getElem_cons_succ, List.getElem_cons_zero, List.setIfInBounds_toArray, List.set_cons_zero, List.set_cons_succ])
        refine wpLate_ready (rs := [6]) (by kernel_rfl) (by simp) ?_
        refine (AllReadyL.cons (i := 6) rfl (fun K hK => ?_) AllReadyL.nil)
        simp only [List.getElem_toArray, List.getElem_cons_succ, List.getElem_cons_zero]
        go_simp
        refine HDF.out.mono ?_; rintro e w7 ⟨v7, rfl, hrow7, hown7, hf7⟩; obtain ⟨ao7, cp7, rfl⟩ := ownsRow_shape hrow7
        have hfA : Frm (Own (.slice yo ys.length yc)) WR w7 := (Frm.refl _ WR).drew.then_ hf7
        refine hK.out _ _ (SK.out _ hfA) (fun hHeld => ?_)
        clear hK K
        (try simp only [Act.put, List.getElem_toArray, List.getElem_cons_succ, List.getElem_cons_zero, List.setIfInBounds_toArray, List.set_cons_zero, List.set_cons_succ])
        have kS := HGC.out _ hfA
        have kF := HGF.out _ hfA
        refine wpLate_take0 (i := 7) (oi := _) (v := _) rfl (by kernel_rfl) (by kernel_rfl) (by kernel_rfl) (by kernel_rfl) (fun _ _ _ h => h) (Or.inl ⟨by rfl, by intro w _; go_simp; all_goals with_reducible rfl⟩) (fun _ => by assumption) ?_
        (try simp only [Act.put, List.getElem_toArray, List.getElem_cons_succ, List.getElem_cons_zero, List.setIfInBounds_toArray, List.set_cons_zero, List.set_cons_succ])
        refine wpLate_take0 (i := 8) (oi := _) (v := _) rfl (by kernel_rfl) (by kernel_rfl) (by kernel_rfl) (by kernel_rfl) (fun _ _ _ h => h) (Or.inl ⟨by rfl, by intro w _; go_simp; all_goals with_reducible rfl⟩) (fun _ => by assumption) ?_
        (try simp only [Act.put, List.getElem_toArray, List.getElem_cons_succ, List.getElem_cons_zero, List.setIfInBounds_toArray, List.set_cons_zero, List.set_cons_succ])
        refine wpLate_ready (rs := [9]) (by kernel_rfl) (by simp) ?_
        refine (AllReadyL.late (i := 9) rfl (by kernel_rfl) (fun K hK => ?_) AllReadyL.nil)
        simp only [List.getElem_toArray, List.getElem_cons_succ, List.getElem_cons_zero]
        go_simp
        refine hK.out _ _ ?_
        clear hK K
        (try simp only [Act.put, List.getElem_toArray, List.getElem_cons_succ, List.getElem_cons_zero, List.setIfInBounds_toArray, List.set_cons_zero, List.set_cons_succ])
        refine wpLate_done (by kernel_rfl) ?_ _
        have hz := HSET.out WR HO2.out w7 hfA (flt n ys) ao7 cp7 hrow7 (.inl hown7)
        rw [HF2.out, HCLL.out, hLS.out] at hz
        have hgb : ∀ k, Own (.slice yo ys.length yc) k → w.heap.size ≤ k := fun k hk => by have := (HDLT.out k hk).1; omega
        have hgC : C ≠ g := fun e => HCG.out e
        have K1 := (B2C.other hfA hCn hgb).setOther (D := g) (by omega) hgC (i * 3 + 2) (.slice ao7 (flt n ys).length cp7)
        have K2 := (B2X.other hfA (fun e => by have := (HDLT.out _ e).1; omega) hgb).setOther (D := g) (by omega) (by omega) (i * 3 + 2) (.slice ao7 (flt n ys).length cp7)
        have K3 := (B2N.other hfA hNn hgb).setOther (D := g) (by omega) (by omega) (i * 3 + 2) (.slice ao7 (flt n ys).length cp7)
        have HZ := hid hz
        have HK1 := hid K1
        have HK2 := hid K2
        have HK3 := hid K3
        have HQ2 : Hid (∀ q ∈ cs'.set i (⟨yn, yt, flt n ys⟩, (ao7, cp7)), ¬ Own (sv q) C) := hid (fun q hq e => by
          rcases List.mem_or_eq_of_mem_set hq with hq | rfl
          · exact HQC.out q hq e
          · exact HCN.out (show (Value.slice yo ys.length yc).ownBlock = some C by rw [← hown7]; exact e))
        clear hz K1 K2 K3 SK HGF HGC HDF hrow7 hf7 HSET kS kF hHeld
        generalize w7.setCell ⟨g, i * 3 + 2, none⟩ (.slice ao7 (flt n ys).length cp7) = w8 at *
        go_wp2_with fail
        exact ⟨⟨i + 1, by omega, by go_num, _, by rw [List.length_set, HCLL.out], HZ.out, HK1.out, HK2.out, HK3.out, HQ2.out⟩, by simp only [intOf]; omega⟩
      · as_aux_lemma =>
        obtain rfl : i = cl := by omega
        have HALL := hid (lvl_all n R.clss)
        rw [HCLE.out] at HALL
        have hgb : ∀ k, Own (.slice ao3 (ml - 1) cp3) k → B0 ≤ k := fun k hk => (hv3 k hk).1
        have hlt := hO.lt
        have k12s := hBC.cell
        have k6 := hBX.cell
        have g6 := hBX.fr
        have hpz : ¬ (i : Int) < (i : Int) := by omega
        have HZ := hid hO
        have HB6 := hid hBX
        have HLT := hid hlt
        rw [HALL.out] at HZ
        clear hO hBC hBN hlt hqC hcl' hBX
        go_wp2_with fail
        have B6t := (HB6.out.set 0 (by simp) (.slice ao3 (ml - 1) cp3)).set 1 (by simp) (.slice cao2 i ccp2)
        have hFt : Frm (One (b + 1 + 1)) wr ((wr.setCell ⟨b + 1 + 1, 0, none⟩ (.slice ao3 (ml - 1) cp3)).setCell ⟨b + 1 + 1, 1, none⟩ (.slice cao2 i ccp2)) := (setCell_own _).then_ (setCell_own _)
        have e0 := B6t.cell 0
        have e1 := B6t.cell 1
        simp only [List.set_cons_zero, List.set_cons_succ, List.getElem?_cons_zero, List.getElem?_cons_succ] at e0 e1
        generalize (wr.setCell ⟨b + 1 + 1, 0, none⟩ (.slice ao3 (ml - 1) cp3)).setCell ⟨b + 1 + 1, 1, none⟩ (.slice cao2 i ccp2) = w7 at *
        have hO5 := HZ.out.frm hFt (fun k hk e => by have e : k = b + 1 + 1 := e; have := hgb k hk; omega) (fun k hk e => by have e : k = b + 1 + 1 := e; have := (HLT.out.2.1 k hk).1; omega) (fun q hq k hk e => by have e : k = b + 1 + 1 := e; have := (HLT.out.2.2 q hq k hk).1; omega)
        refine bodyPost_ret (v := .tuple #[.agg #[.slice ao3 (ml - 1) cp3, .slice cao2 i ccp2], .int .i64 0]) (by simp [results, Tryz.results21, go_sem, e0, e1]) rfl ⟨_, _, rfl, hO5.rd, B6t.frm⟩
end Go.Proofs.YtofcmghhmklmiaaGreat
