/- Part. Printed by a program (rollj.py). -/
import Derived.Test.YtofcmghhmklmiaaGreatRollI
namespace Go.Proofs.YtofcmghhmklmiaaGreat
open Go.RowKit
open Roll

set_option maxRecDepth 100000 in
set_option maxHeartbeats 4000000 in
theorem rpart_any (R : Rl) (mv cv : Value) (c s : B) (w : World) (hr : RlR w mv cv R) (hI : Inv R) :
    Calls Tryz.prog 25 #[.agg #[mv, cv], .string ⟨c.toArray⟩, .string ⟨s.toArray⟩] w (DeedP w (Roll.part R c s)) := by
  have HK := hid (fun w1 (hf : Frm No w w1) => class_any R mv cv c w1 (hr.no hf) hI.cs (by have := hI.cl; omega))
  have HC := hid (fun w1 (hf : Frm No w w1) => rclone_inv (hr.no hf) hI)
  have hml := hI.ml
  have hcl := hI.cl
  obtain ⟨mao, mcp, rfl⟩ := hr.mr.shape
  obtain ⟨cs, hfs, hc, hst⟩ := hr.cr
  have hcsl : cs.length = R.clss.length := by rw [← hfs]; simp
  have HST := hid (fun w1 (hf : Frm No w w1) p (hp : p ∈ cs) => (hst p hp).frm (fun _ _ => rfl) hf (fun _ _ h => h))
  have HCR := hid hc
  obtain ⟨cao, ccp, rfl⟩ := hc.shape
  have HFS := hid hfs
  have HCS := hid hcsl
  rw [hcsl] at HK HC ⊢
  obtain ⟨ml, hmle⟩ : ∃ ml, R.mems.length = ml := ⟨_, rfl⟩
  rw [hmle] at hml HK HC ⊢
  obtain ⟨cl, hcle⟩ : ∃ cl, R.clss.length = cl := ⟨_, rfl⟩
  rw [hcle] at hcl HK HC ⊢
  have HCLE := hid hcle
  have HMLE := hid hmle
  clear hr hc hfs hcle hmle hcsl hst
  cases h2a : has Cls.name R.clss c
  · as_aux_lemma =>
    have he : Roll.part R c s = (Roll.nil, 10) := by unfold Roll.part; rw [find_none.2 h2a]
    rw [h2a] at HK
    rw [he]
    clear he HC hI HMLE HCLE HST HCR HFS HCS h2a
    generalize place Cls.name R.clss c = p at *
    go_enter Tryz.func25, Tryz.ntmps25
    go_upto_region 1 with fail
    have X0 := Box.new (Frm.refl No w) [.slice mao ml mcp, .slice cao cl ccp] 27
    have X1 := Box.new X0.frm [.slice none 0 0, .slice none 0 0] 27
    have Y0 := X0.no ((Frm.refl No _).alloc (.cells #[.slice none 0 0, .slice none 0 0] 27))
    simp only [World.size_alloc] at X1
    obtain ⟨W, hW⟩ : ∃ W, W = (w.alloc (.cells #[.slice mao ml mcp, .slice cao cl ccp] 27)).alloc (.cells #[.slice none 0 0, .slice none 0 0] 27) := ⟨_, rfl⟩
    rw [← hW] at X1 Y0 ⊢
    clear hW
    obtain ⟨b, hb⟩ : ∃ b, w.heap.size = b := ⟨_, rfl⟩
    rw [hb] at X1 Y0
    simp only [hb]
    have F1 := X1.frm
    have HX1 := hid X1
    have HY0 := hid Y0
    have cW := Y0.cell
    clear X0 X1 Y0
    go_wp2_with (first | (go_at_call 49; refine (HK.out _ F1).mono ?_; rintro e w1 ⟨rfl, hf1⟩; have BX := HX1.out.no hf1; have BY := HY0.out.no hf1; have cY := BY.cell; have cX := BX.cell; have fX := BX.fr))
    have BX4 := (BX.set 0 (by simp) (.slice none 0 0)).set 1 (by simp) (.slice none 0 0)
    have e0 := BX4.cell 0
    have e1 := BX4.cell 1
    simp only [List.set_cons_zero, List.set_cons_succ, List.getElem?_cons_zero, List.getElem?_cons_succ] at e0 e1
    refine bodyPost_ret (v := .tuple #[.agg #[.slice none 0 0, .slice none 0 0], .int .i64 10]) (by simp [results, Tryz.results25, go_sem, e0, e1]) rfl ⟨_, _, rfl, nil_rd _, BX4.frm⟩
  obtain ⟨hpl, hfx⟩ := find_at hI.cs h2a
  obtain ⟨hpl', hxn⟩ := (has_at hI.cs).1 h2a
  have hpc : place Cls.name R.clss c < cs.length := by rw [HCS.out]; exact hpl
  have hx1 : (cs[place Cls.name R.clss c]'hpc).1 = R.clss[place Cls.name R.clss c] := by
    have := HFS.out
    simp only [← this, List.getElem_map]
  rw [h2a] at HK
  obtain ⟨p, hpe⟩ : ∃ p, place Cls.name R.clss c = p := ⟨_, rfl⟩
  simp only [hpe] at HK hpl hpl' hfx hpc hx1 hxn
  have HPE := hid hpe
  obtain ⟨b0, o0, rfl, hq0⟩ : ∃ b0 o0, cao = some ⟨b0, o0, none⟩ ∧ ∀ i (hi : i < cs.length) j, j < 3 → w.cell? ⟨b0, o0 + (i * 3 + j), none⟩ = (clsV cs[i])[j]? := by
    exact HCR.out.at_ (by omega)
  obtain ⟨⟨⟨xn, xt, xs⟩, so, sc⟩, hxe⟩ : ∃ x, cs[p] = x := ⟨_, rfl⟩
  have hq2 := hq0 p hpc 2 (by omega)
  rw [hxe] at hq2 hx1
  simp only [clsV, List.getElem?_cons_zero, List.getElem?_cons_succ] at hq2
  have hb0 : b0 < w.heap.size := World.block_lt_of_cell? w _ hq2
  have HQ2 := hid (fun w' (hf : Frm No w w') => (hf.cell (p := ⟨b0, o0 + (p * 3 + 2), none⟩) hb0 (fun h => h)).trans hq2)
  simp only [← Nat.add_assoc] at HQ2
  have hxm : R.clss[p] ∈ R.clss := List.getElem_mem _
  have hxsl := hI.students hxm
  have hxsr := (hI.cg _ hxm).2.2.1
  rw [← hx1] at hxsl hxsr hxn
  dsimp only at hxsl hxsr hxn
  have HBS := hid (fun w' (hf : Frm No w w') => bss_any xs (.slice so xs.length sc) s w' (by have := HST.out w' hf cs[p] (List.getElem_mem _); rw [hxe] at this; exact this) hxsr (by omega))
  have hpz : (p : Int) < (cl : Int) := by rw [← HCLE.out]; omega
  have HX1E := hid hx1
  have HFX := hid hfx
  have HXN := hid hxn
  have hpcl : p < cl := by omega
  have HPL := hid hpl
  clear hq0 hq2 HST HCR hxe hx1 hfx hxn hxm HFS HCS h2a hpc
  by_cases h5 : has id xs s = false
  · as_aux_lemma =>
    have he : Roll.part R c s = (Roll.nil, 10) := by unfold Roll.part; rw [HFX.out]; dsimp only; rw [← HX1E.out]; dsimp only; rw [if_pos h5]
    rw [he]
    rw [h5] at HBS
    clear he h5 HC hI HMLE HCLE HFX HX1E HXN HPE HPL
    generalize place id xs s = k at *
    generalize xs.length = xl at *
    go_enter Tryz.func25, Tryz.ntmps25
    go_upto_region 1 with fail
    have X0 := Box.new (Frm.refl No w) [.slice mao ml mcp, .slice (some ⟨b0, o0, none⟩) cl ccp] 27
    have X1 := Box.new X0.frm [.slice none 0 0, .slice none 0 0] 27
    have Y0 := X0.no ((Frm.refl No _).alloc (.cells #[.slice none 0 0, .slice none 0 0] 27))
    simp only [World.size_alloc] at X1
    obtain ⟨W, hW⟩ : ∃ W, W = (w.alloc (.cells #[.slice mao ml mcp, .slice (some ⟨b0, o0, none⟩) cl ccp] 27)).alloc (.cells #[.slice none 0 0, .slice none 0 0] 27) := ⟨_, rfl⟩
    rw [← hW] at X1 Y0 ⊢
    clear hW
    obtain ⟨b, hb⟩ : ∃ b, w.heap.size = b := ⟨_, rfl⟩
    rw [hb] at X1 Y0
    simp only [hb]
    have F1 := X1.frm
    have HX1 := hid X1
    have HY0 := hid Y0
    have cW := Y0.cell
    clear X0 X1 Y0
    go_wp2_with (first | (go_at_call 49; refine (HK.out _ F1).mono ?_; rintro e w1 ⟨rfl, hf1⟩; have BX := HX1.out.no hf1; have BY := HY0.out.no hf1; have cY := BY.cell; have cX := BX.cell; have fX := BX.fr; have q2 := HQ2.out _ BY.frm; have HBS2 := hid (HBS.out _ BY.frm)) | (go_at_call 63; refine HBS2.out.mono ?_; rintro e w3 ⟨rfl, rfl⟩))
    have BX4 := (BX.set 0 (by simp) (.slice none 0 0)).set 1 (by simp) (.slice none 0 0)
    have e0 := BX4.cell 0
    have e1 := BX4.cell 1
    simp only [List.set_cons_zero, List.set_cons_succ, List.getElem?_cons_zero, List.getElem?_cons_succ] at e0 e1
    refine bodyPost_ret (v := .tuple #[.agg #[.slice none 0 0, .slice none 0 0], .int .i64 10]) (by simp [results, Tryz.results25, go_sem, e0, e1]) rfl ⟨_, _, rfl, nil_rd _, BX4.frm⟩
  as_aux_lemma =>
  have he : Roll.part R c s = (⟨R.mems, R.clss.set p ⟨xn, xt, xs.eraseIdx (place id xs s)⟩⟩, 0) := by
    unfold Roll.part
    rw [HFX.out]
    dsimp only
    rw [← HX1E.out]
    dsimp only
    rw [if_neg h5]
    have := set_at (n := c) hI.cs (fun y => ⟨y.name, y.teacher, y.students.eraseIdx (place id y.students s)⟩) (by rw [HPE.out]; exact HPL.out) (by simp only [HPE.out]; rw [← HX1E.out]; exact HXN.out)
    simp only [HPE.out] at this
    rw [← this, ← HX1E.out]
  rw [he]
  rw [Bool.not_eq_false] at h5
  rw [h5] at HBS
  have hklt : place id xs s < xs.length := by obtain ⟨h, -⟩ := (has_at hxsr).1 h5; exact h
  have HIM := hid (fun (base : Nat) (v : Value) (w1 : World) (hrow : w1.ownsRow base 9 1 v xs.length (rows strV xs)) => delete_str base v xs (place id xs s) w1 hrow hklt (by omega))
  have HINS : Hid ((xs.eraseIdx (place id xs s)).length = xs.length - 1) := hid (by rw [List.length_eraseIdx, if_pos hklt])
  have HI := hid hI
  clear he h5 hI HFX HXN
  obtain ⟨k, hke⟩ : ∃ k, place id xs s = k := ⟨_, rfl⟩
  simp only [hke] at HIM HBS hklt HINS ⊢
  clear hke
  go_enter Tryz.func25, Tryz.ntmps25
  go_upto_region 1 with fail
  have X0 := Box.new (Frm.refl No w) [.slice mao ml mcp, .slice (some ⟨b0, o0, none⟩) cl ccp] 27
  have X1 := Box.new X0.frm [.slice none 0 0, .slice none 0 0] 27
  have Y0 := X0.no ((Frm.refl No _).alloc (.cells #[.slice none 0 0, .slice none 0 0] 27))
  simp only [World.size_alloc] at X1
  obtain ⟨W, hW⟩ : ∃ W, W = (w.alloc (.cells #[.slice mao ml mcp, .slice (some ⟨b0, o0, none⟩) cl ccp] 27)).alloc (.cells #[.slice none 0 0, .slice none 0 0] 27) := ⟨_, rfl⟩
  rw [← hW] at X1 Y0 ⊢
  clear hW
  obtain ⟨b, hb⟩ : ∃ b, w.heap.size = b := ⟨_, rfl⟩
  rw [hb] at X1 Y0
  simp only [hb]
  have F1 := X1.frm
  have HX1 := hid X1
  have HY0 := hid Y0
  have cW := Y0.cell
  clear X0 X1 Y0
  go_upto_region 8 with (first | (go_at_call 49; refine (HK.out _ F1).mono ?_; rintro e w1 ⟨rfl, hf1⟩; have BX := HX1.out.no hf1; have BY := HY0.out.no hf1; have cY := BY.cell; have cX := BX.cell; have fX := BX.fr; have q2 := HQ2.out _ BY.frm; have HBS2 := hid (HBS.out _ BY.frm)) | (go_at_call 63; refine HBS2.out.mono ?_; rintro e w3 ⟨rfl, rfl⟩) | (go_at_call 55; refine (HC.out _ BY.frm).mono ?_; rintro e w4 ⟨mv2, cv2, cs2, rfl, hO, hf4⟩; obtain ⟨mao2, mcp2, rfl⟩ := ownsRow_shape hO.mo; obtain ⟨cao2, ccp2, rfl⟩ := ownsRow_shape hO.co))
  have hmle := HMLE.out
  rw [hmle]
  have hc2 : cs2.length = cl := by have := congrArg List.length hO.fst; simp only [List.length_map] at this; rw [this]; exact HCLE.out
  rw [hc2]
  have BX2 := BX.no hf4
  have X14 := Box.new BX2.frm [.slice mao2 ml mcp2, .slice cao2 cl ccp2] 27
  have BX5 := BX2.no ((Frm.refl No w4).alloc (.cells #[.slice mao2 ml mcp2, .slice cao2 cl ccp2] 27))
  have hOa := hO.no ((Frm.refl No w4).alloc (.cells #[.slice mao2 ml mcp2, .slice cao2 cl ccp2] 27))
  have hlt := hO.lt
  rw [hmle] at hOa hlt
  obtain ⟨WA, hWA⟩ : ∃ WA, WA = w4.alloc (.cells #[.slice mao2 ml mcp2, .slice cao2 cl ccp2] 27) := ⟨_, rfl⟩
  have hsA : WA.heap.size = w4.heap.size + 1 := by rw [hWA]; simp
  rw [← hWA, hc2] at hOa
  rw [← hWA] at X14 BX5 ⊢
  clear hWA
  obtain ⟨C, hC⟩ : ∃ C, w4.heap.size = C := ⟨_, rfl⟩
  rw [hC] at X14 hsA hlt
  simp only [hC]
  obtain ⟨w2s, hw2s⟩ : ∃ w2s, w1.heap.size = w2s := ⟨_, rfl⟩
  have h12 : w2s ≤ C := by rw [← hC, ← hw2s]; exact hf4.size
  have hbB : b + 1 < w2s := by rw [← hw2s]; exact BX.lC
  have hww : w.heap.size ≤ w2s := by rw [← hw2s]; exact BX.frm.size
  rw [hw2s] at hOa hlt
  have hp2 : p < cs2.length := by rw [hc2]; exact hpcl
  have hx2 : (cs2[p]'hp2).1 = ⟨xn, xt, xs⟩ := by
    have := hOa.fst
    rw [HX1E.out]
    simp only [← this, List.getElem_map]
  have hco2 := hOa.co
  rw [hc2] at hco2
  obtain ⟨g, cap, hv2, hbg, hgl, hnc, hgc, hgf⟩ := own_at clsS (by rw [hc2]; exact hco2) hp2
  rw [hc2] at hv2 hnc
  simp only [Value.slice.injEq, true_and] at hv2
  obtain ⟨rfl, rfl⟩ := hv2
  have q2a := hgc 2 (by omega)
  have hso := hOa.so _ (List.getElem_mem hp2)
  have HSET := hid (fun (w' : World) (hf : Frm (Own (sv (cs2[p]'hp2))) WA w') (l : List B) (ao : Option Addr) (cc : Nat) ho hn => RlO.setS (by rw [hc2]; exact hOa) hp2 hf l ao cc ho hn)
  have hdc := hOa.dcs _ (List.getElem_mem hp2)
  have hdlt := hlt.2.2 _ (List.getElem_mem hp2)
  have HF2 := hid (fun y => set_fst hOa.fst p y)
  obtain ⟨y, hy⟩ : ∃ y, cs2[p]'hp2 = y := ⟨_, rfl⟩
  simp only [hy] at hx2 q2a hso HSET hdc hdlt
  obtain ⟨⟨yn, yt, ys⟩, yo, yc⟩ := y
  obtain ⟨rfl, rfl, rfl⟩ : yn = xn ∧ yt = xt ∧ ys = xs := by simpa using hx2
  simp only [clsV, List.getElem?_cons_zero, List.getElem?_cons_succ, sv] at q2a hso hdlt hdc
  have hsve : sv ((⟨yn, yt, ys⟩, (yo, yc)) : CV) = .slice yo ys.length yc := rfl
  have c14 := X14.cell 1
  simp only [List.getElem?_cons_zero, List.getElem?_cons_succ] at c14
  have hCl := X14.lC
  have hCn : ¬ Own (.slice yo ys.length yc) C := fun e => by have := (hdlt C e).2; omega
  have hgn : ¬ Own (.slice yo ys.length yc) g := fun e => hdc g rfl e
  have SK : Hid (∀ w', Frm (Own (.slice yo ys.length yc)) WA w' → w'.cell? ⟨C, 1, none⟩ = some (.slice (some ⟨g, 0, none⟩) cl ccp2) ∧ w'.cell? ⟨g, p * 3 + 2, none⟩ = some (.slice yo ys.length yc)) := hid fun w' hf => ⟨(hf.cell (p := ⟨C, 1, none⟩) hCl hCn).trans c14, (hf.cell (p := ⟨g, p * 3 + 2, none⟩) hgl hgn).trans q2a⟩
  have HGF := hid (fun w' (hf : Frm (Own (.slice yo ys.length yc)) WA w') => (hf.frozen (p := ⟨g, p * 3 + 2, none⟩) hgl hgn).trans (hgf _))
  have HI2 := hid (fun (WB : World) (hWB : WB.heap = WA.drew.heap) => HIM.out w2s (.slice yo ys.length yc) WB (by
      have := hso.drew
      exact ⟨this.1, by rw [hWB]; exact this.2⟩))
  have HSA := hid hsA
  have HDLT := hid hdlt
  have HLT := hid hlt
  have HB5 := hid BX5
  have HX14 := hid X14
  have HC2 := hid hc2
  have HOA := hid hOa
  clear hO hlt X14 BX5 BX2 BX cX fX BY cY cW HC HK HX1 HY0 hmle hOa hsA hdlt HIM hso hgf hgc hco2 c14 q2a hy hx2 HBS HBS2 HQ2 q2 hc2
  refine wp_region_late (fun w' => w'.cell? ⟨C, 1, none⟩ = some (.slice (some ⟨g, 0, none⟩) cl ccp2) ∧ w'.cell? ⟨g, p * 3 + 2, none⟩ = some (.slice yo ys.length yc)) [15] (by kernel_rfl) (SK.out _ (Frm.refl _ _).drew) (fun hHeld => ?_)
  refine wpLate_take0 (i := 0) (oi := _) (v := _) rfl (by kernel_rfl) (by kernel_rfl) (by kernel_rfl) (by kernel_rfl) (fun _ _ _ h => h) (Or.inl ⟨by rfl, by intro w _; go_simp; all_goals with_reducible rfl⟩) (fun _ => by assumption) ?_
  (try simp only [Act.put, List.getElem_toArray, List.getElem_cons_zero, List.setIfInBounds_toArray, List.set_cons_zero, List.set_cons_succ])
  refine wpLate_take [13, 14, 15] (i := 1) (oi := _) (v := _) rfl (by kernel_rfl) (by kernel_rfl) (by kernel_rfl) (by kernel_rfl) (by kernel_rfl) (fun _ _ _ h => h) (Or.inl ⟨by rfl, by intro w hSw; (try dsimp only at hSw); go_simp; all_goals with_reducible rfl⟩) (by assumption) ?_
  (try simp only [Act.put, List.getElem_toArray, List.getElem_cons_succ, List.getElem_cons_zero, List.setIfInBounds_toArray, List.set_cons_zero, List.set_cons_succ])
  refine wpLate_take0 (i := 2) (oi := _) (v := _) rfl (by kernel_rfl) (by kernel_rfl) (by kernel_rfl) (by kernel_rfl) (fun _ _ _ h => h) (Or.inl ⟨by rfl, by intro w _; go_simp; all_goals with_reducible rfl⟩) (fun _ => by assumption) ?_
  (try simp only [Act.put, List.getElem_toArray, List.getElem_cons_succ, List.getElem_cons_zero, List.setIfInBounds_toArray, List.set_cons_zero, List.set_cons_succ])
  refine wpLate_take0 (i := 3) (oi := _) (v := _) rfl (by kernel_rfl) (by kernel_rfl) (by kernel_rfl) (by kernel_rfl) (fun _ _ _ h => h) (Or.inl ⟨by rfl, by intro w _; go_simp; all_goals with_reducible rfl⟩) (fun _ => by assumption) ?_
  (try simp only [Act.put, List.getElem_toArray, List.getElem_cons_succ, List.getElem_cons_zero, List.setIfInBounds_toArray, List.set_cons_zero, List.set_cons_succ])
  refine wpLate_take [6, 7, 8, 12, 15] (i := 4) (oi := _) (v := _) rfl (by kernel_rfl) (by kernel_rfl) (by kernel_rfl) (by kernel_rfl) (by kernel_rfl) (fun _ _ _ h => h) (Or.inl ⟨by rfl, by intro w hSw; (try dsimp only at hSw); go_simp; all_goals with_reducible rfl⟩) (by assumption) ?_
  (try simp only [Act.put, List.getElem_toArray, List.getElem_cons_succ, List.getElem_cons_zero, List.setIfInBounds_toArray, List.set_cons_zero, List.set_cons_succ])
  refine wpLate_take0 (i := 5) (oi := _) (v := _) rfl (by kernel_rfl) (by kernel_rfl) (by kernel_rfl) (by kernel_rfl) (fun _ _ _ h => h) (Or.inl ⟨by rfl, by intro w _; go_simp; all_goals with_reducible rfl⟩) (fun _ => by assumption) ?_
  (try simp only [Act.put, List.getElem_toArray, List.getElem_cons_succ, List.getElem_cons_zero, List.setIfInBounds_toArray, List.set_cons_zero, List.set_cons_succ])
  refine wpLate_take0 (i := 6) (oi := _) (v := _) rfl (by kernel_rfl) (by kernel_rfl) (by kernel_rfl) (by kernel_rfl) (fun _ _ _ h => h) (Or.inl ⟨by rfl, by intro w _; go_simp; all_goals with_reducible rfl⟩) (fun _ => by assumption) ?_
  (try simp only [Act.put, List.getElem_toArray, List.getElem_cons_succ, List.getElem_cons_zero, List.setIfInBounds_toArray, List.set_cons_zero, List.set_cons_succ])
  refine wpLate_take0 (i := 7) (oi := _) (v := _) rfl (by kernel_rfl) (by kernel_rfl) (by kernel_rfl) (by kernel_rfl) (fun _ _ _ h => h) (Or.inl ⟨by rfl, by intro w _; go_simp; all_goals with_reducible rfl⟩) (fun _ => by assumption) ?_
  (try simp only [Act.put, List.getElem_toArray, List.getElem_cons_succ, List.getElem_cons_zero, List.setIfInBounds_toArray, List.set_cons_zero, List.set_cons_succ])
  refine wpLate_take [12, 15] (i := 8) (oi := _) (v := _) rfl (by kernel_rfl) (by kernel_rfl) (by kernel_rfl) (by kernel_rfl) (by kernel_rfl) (fun _ _ _ h => h) (Or.inl ⟨by rfl, by intro w hSw; (try dsimp only at hSw); go_simp; all_goals with_reducible rfl⟩) (by assumption) ?_
  (try simp only [Act.put, List.getElem_toArray, List.getElem_cons_succ, List.getElem_cons_zero, List.setIfInBounds_toArray, List.set_cons_zero, List.set_cons_succ])
  refine wpLate_take0 (i := 9) (oi := _) (v := _) rfl (by kernel_rfl) (by kernel_rfl) (by kernel_rfl) (by kernel_rfl) (fun _ _ _ h => h) (Or.inl ⟨by rfl, by intro w _; go_simp; all_goals with_reducible rfl⟩) (fun _ => by assumption) ?_
  (try simp only [Act.put, List.getElem_toArray, List.getElem_cons_succ, List.getElem_cons_zero, List.setIfInBounds_toArray, List.set_cons_zero, List.set_cons_succ])
  refine wpLate_take0 (i := 10) (oi := _) (v := _) rfl (by kernel_rfl) (by kernel_rfl) (by kernel_rfl) (by kernel_rfl) (fun _ _ _ h => h) (Or.inl ⟨by rfl, by intro w _; go_simp; all_goals with_reducible rfl⟩) (fun _ => by assumption) ?_
  (try simp only [Act.put, List.getElem_toArray, List.getElem_cons_succ, List.getElem_cons_zero, List.setIfInBounds_toArray, List.set_cons_zero, List.set_cons_succ])
  refine wpLate_take0 (i := 11) (oi := _) (v := _) rfl (by kernel_rfl) (by kernel_rfl) (by kernel_rfl) (by kernel_rfl) (fun _ _ _ h => h) (Or.inl ⟨by rfl, by intro w _; go_simp; all_goals with_reducible rfl⟩) (fun _ => by assumption) ?_
  (try simp only [Act.put, List.getElem_toArray, List.getElem_cons_succ, List.getElem_cons_zero, List.setIfInBounds_toArray, List.set_cons_zero, List.set_cons_succ])
  refine wpLate_ready (rs := [12]) (by kernel_rfl) (by simp) ?_
  refine (AllReadyL.cons (i := 12) rfl (fun K hK => ?_) AllReadyL.nil)
  simp only [List.getElem_toArray, List.getElem_cons_succ, List.getElem_cons_zero]
  go_simp
  have hkw : IntKind.i64.wrap ((k : Int) + 1) = (k : Int) + 1 := by rw [IntKind.wrap_i64]; omega
  rw [hkw]
  clear hkw
  refine (HI2.out _ rfl).mono ?_; rintro e w5 ⟨v3, rfl, hrow3, hown3, hf5⟩; obtain ⟨ao3, cp3, rfl⟩ := ownsRow_shape hrow3
  have hfA : Frm (Own (.slice yo ys.length yc)) WA w5 := (Frm.refl _ WA).drew.then_ hf5
  refine hK.out _ _ (SK.out _ hfA) (fun hHeld => ?_)
  clear hK K
  (try simp only [Act.put, List.getElem_toArray, List.getElem_cons_succ, List.getElem_cons_zero, List.setIfInBounds_toArray, List.set_cons_zero, List.set_cons_succ])
  have kS := (SK.out _ hfA).2
  have kF := HGF.out _ hfA
  refine wpLate_take0 (i := 13) (oi := _) (v := _) rfl (by kernel_rfl) (by kernel_rfl) (by kernel_rfl) (by kernel_rfl) (fun _ _ _ h => h) (Or.inl ⟨by rfl, by intro w _; go_simp; all_goals with_reducible rfl⟩) (fun _ => by assumption) ?_
  (try simp only [Act.put, List.getElem_toArray, List.getElem_cons_succ, List.getElem_cons_zero, List.setIfInBounds_toArray, List.set_cons_zero, List.set_cons_succ])
  refine wpLate_take0 (i := 14) (oi := _) (v := _) rfl (by kernel_rfl) (by kernel_rfl) (by kernel_rfl) (by kernel_rfl) (fun _ _ _ h => h) (Or.inl ⟨by rfl, by intro w _; go_simp; all_goals with_reducible rfl⟩) (fun _ => by assumption) ?_
  (try simp only [Act.put, List.getElem_toArray, List.getElem_cons_succ, List.getElem_cons_zero, List.setIfInBounds_toArray, List.set_cons_zero, List.set_cons_succ])
  refine wpLate_ready (rs := [15]) (by kernel_rfl) (by simp) ?_
  refine (AllReadyL.late (i := 15) rfl (by kernel_rfl) (fun K hK => ?_) AllReadyL.nil)
  simp only [List.getElem_toArray, List.getElem_cons_succ, List.getElem_cons_zero]
  go_simp
  refine hK.out _ _ ?_
  clear hK K
  (try simp only [Act.put, List.getElem_toArray, List.getElem_cons_succ, List.getElem_cons_zero, List.setIfInBounds_toArray, List.set_cons_zero, List.set_cons_succ])
  refine wpLate_done (by kernel_rfl) ?_ _
  have hz := HSET.out w5 hfA (ys.eraseIdx k) ao3 cp3 (by rw [HINS.out]; exact hrow3) (by rw [HINS.out]; exact .inl hown3)
  rw [HF2.out, HC2.out, HINS.out] at hz
  have B14 := HX14.out.other hfA hCn (fun k' hk' => by have := (HDLT.out k' hk').1; omega)
  have B6 := HB5.out.other hfA (fun e => by have := (HDLT.out _ e).1; omega) (fun k' hk' => by have := (HDLT.out k' hk').1; omega)
  have hgC : C ≠ g := fun e => by have := (HLT.out.2.1 g rfl).2; omega
  have hgb : w2s ≤ g := (HLT.out.2.1 g rfl).1
  have B14s := B14.setOther (D := g) (by omega) hgC (p * 3 + 2) (.slice ao3 (ys.length - 1) cp3)
  have B6s := B6.setOther (D := g) (by omega) (by omega) (p * 3 + 2) (.slice ao3 (ys.length - 1) cp3)
  clear kS kF hHeld
  generalize w5.setCell ⟨g, p * 3 + 2, none⟩ (.slice ao3 (ys.length - 1) cp3) = w6 at *
  have k14s := B14s.cell
  have k6 := B6s.cell
  have g6 := B6s.fr
  have HZ := hid hz
  clear hz SK HGF HI2 hrow3 hf5 HSET
  go_wp2_with fail
  have B6t := (B6s.set 0 (by simp) (.slice mao2 ml mcp2)).set 1 (by simp) (.slice (some ⟨g, 0, none⟩) cl ccp2)
  have hFt : Frm (One (b + 1)) w6 ((w6.setCell ⟨b + 1, 0, none⟩ (.slice mao2 ml mcp2)).setCell ⟨b + 1, 1, none⟩ (.slice (some ⟨g, 0, none⟩) cl ccp2)) := (setCell_own _).then_ (setCell_own _)
  have e0 := B6t.cell 0
  have e1 := B6t.cell 1
  simp only [List.set_cons_zero, List.set_cons_succ, List.getElem?_cons_zero, List.getElem?_cons_succ] at e0 e1
  generalize (w6.setCell ⟨b + 1, 0, none⟩ (.slice mao2 ml mcp2)).setCell ⟨b + 1, 1, none⟩ (.slice (some ⟨g, 0, none⟩) cl ccp2) = w7 at *
  obtain ⟨l1, l2, l3⟩ := HZ.out.lt
  have hO5 := HZ.out.frm hFt (fun k' hk e => by have e : k' = b + 1 := e; have := (l1 k' hk).1; omega) (fun k' hk e => by have e : k' = b + 1 := e; have := (l2 k' hk).1; omega) (fun q hq k' hk e => by have e : k' = b + 1 := e; have := (l3 q hq k' hk).1; omega)
  refine bodyPost_ret (v := .tuple #[.agg #[.slice mao2 ml mcp2, .slice (some ⟨g, 0, none⟩) cl ccp2], .int .i64 0]) (by simp [results, Tryz.results25, go_sem, e0, e1]) rfl ⟨_, _, rfl, hO5.rd, B6t.frm⟩
end Go.Proofs.YtofcmghhmklmiaaGreat
