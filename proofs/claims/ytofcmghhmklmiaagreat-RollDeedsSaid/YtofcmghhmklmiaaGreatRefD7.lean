/- done: a deed of the reference's. Made from do's walk. -/
import Derived.Test.YtofcmghhmklmiaaGreatRollR
import Derived.Test.YtofcmghhmklmiaaGreatRefDJ
import Derived.Test.YtofcmghhmklmiaaGreatRefDC
namespace Go.Proofs.YtofcmghhmklmiaaGreat
open Go.ChangeShapes Go.WideShapes Go.ChangeAt Go.RowKit Go.Deep
open Roll
set_option maxRecDepth 100000 in
set_option maxHeartbeats 4000000 in
theorem done_any (R : Rl) (mv cv : Value) (d : Deed) (w : World) (hr : RlR w mv cv R) (hI : Inv R) (ha : d.a.length ≤ 200) :
    Calls Tryz.prog 7 #[.agg #[mv, cv], .agg #[.int .i64 d.what, .string ⟨d.a.toArray⟩, .string ⟨d.b.toArray⟩, .int .i64 d.n]] w (DeedP w (deed R d)) := by
  have HK := hid (fun w1 => kind_any d w1)
  obtain ⟨mao, mcp, cao, ccp, rfl, rfl⟩ := hr.shapes
  have hlt := (k7_is d.what).2
  have hdf : deed R d = (match k7 d.what with
    | 0 => enrol R d.a d.n
    | 1 => leave R d.a
    | 2 => grant R d.a d.n
    | 3 => open_ R d.a d.b
    | 4 => close R d.a
    | 5 => join R d.a d.b
    | _ => Roll.part R d.a d.b) := rfl
  rw [hdf]
  clear hdf
  obtain ⟨k, hk⟩ : ∃ k, k7 d.what = k := ⟨_, rfl⟩
  rw [hk] at HK hlt ⊢
  clear hk
  obtain ⟨x, da, db, dn⟩ := d
  dsimp only at HK ha ⊢
  have HR := hid (fun (w1 : World) (hf : Frm No w w1) => hr.no hf)
  clear hr
  rcases (show k = 0 ∨ k = 1 ∨ k = 2 ∨ k = 3 ∨ k = 4 ∨ k = 5 ∨ k = 6 by omega) with rfl | rfl | rfl | rfl | rfl | rfl | rfl
  · as_aux_lemma =>
    have HD := hid (fun (w1 : World) (hf : Frm No w w1) => reenrol_any R _ _ da dn w1 (HR.out w1 hf) hI (by omega))
    clear HR hI
    generalize enrol R da dn = res at *
    obtain ⟨R2, er⟩ := res
    generalize R.mems.length = ml at *
    generalize R.clss.length = cl at *
    go_enter Tryz.func7, Tryz.ntmps7
    go_upto_region 1 with fail
    have X0 := Box.new (Frm.refl No w) [.slice mao ml mcp, .slice cao cl ccp] 31
    have Xd := Box.new X0.frm [.int .i64 x, .string ⟨da.toArray⟩, .string ⟨db.toArray⟩, .int .i64 dn] 34
    have X1 := Box.new Xd.frm [.slice none 0 0, .slice none 0 0] 31
    have Yd := Xd.no ((Frm.refl No _).alloc (.cells #[.slice none 0 0, .slice none 0 0] 31))
    have Y0 := (X0.no ((Frm.refl No _).alloc (.cells #[.int .i64 x, .string ⟨da.toArray⟩, .string ⟨db.toArray⟩, .int .i64 dn] 34))).no ((Frm.refl No _).alloc (.cells #[.slice none 0 0, .slice none 0 0] 31))
    simp only [World.size_alloc] at X1 Yd
    obtain ⟨W, hW⟩ : ∃ W, W = ((w.alloc (.cells #[.slice mao ml mcp, .slice cao cl ccp] 31)).alloc (.cells #[.int .i64 x, .string ⟨da.toArray⟩, .string ⟨db.toArray⟩, .int .i64 dn] 34)).alloc (.cells #[.slice none 0 0, .slice none 0 0] 31) := ⟨_, rfl⟩
    rw [← hW] at X1 Yd Y0 ⊢
    clear hW
    obtain ⟨b, hb⟩ : ∃ b, w.heap.size = b := ⟨_, rfl⟩
    rw [hb] at X1 Y0 Yd
    simp only [hb]
    have HX1 := hid X1
    have HY0 := hid Y0
    have HYd := hid Yd
    have cD := Yd.cell
    clear X0 X1 Xd Y0 Yd
    go_wp2_with (first | (go_at_call 20; refine (HK.out _).mono ?_; rintro e w1 ⟨rfl, hf1⟩; have BX := HX1.out.no hf1; have BY := HY0.out.no hf1; have cY := BY.cell; have BD := HYd.out.no hf1; have cD1 := BD.cell) | (go_at_call 26; refine (HD.out _ BX.frm).mono ?_; rintro e w2 ⟨mv2, cv2, rfl, hr2, hf2⟩; obtain ⟨a2, c2, a3, c3, rfl, rfl⟩ := hr2.shapes; have BX2 := BX.no hf2; have cX2 := BX2.cell; have fX2 := BX2.fr))
    have BX4 := (BX2.set 0 (by simp) (.slice a2 R2.mems.length c2)).set 1 (by simp) (.slice a3 R2.clss.length c3)
    have e0 := BX4.cell 0
    have e1 := BX4.cell 1
    have hrb := hr2.box (E := b + 1 + 1) (fun j s e => noStr2 ⟨_, _, _, rfl⟩ ⟨_, _, _, rfl⟩ j s (by rw [← cX2 j]; exact e)) ((setCell_own _).then_ (setCell_own _) : Frm (One (b + 1 + 1)) w2 ((w2.setCell ⟨b + 1 + 1, 0, none⟩ (.slice a2 R2.mems.length c2)).setCell ⟨b + 1 + 1, 1, none⟩ (.slice a3 R2.clss.length c3)))
    simp only [List.set_cons_zero, List.set_cons_succ, List.getElem?_cons_zero, List.getElem?_cons_succ] at e0 e1
    refine bodyPost_ret (v := .tuple #[.agg #[.slice a2 R2.mems.length c2, .slice a3 R2.clss.length c3], .int .i64 er]) (by simp [results, Tryz.results7, go_sem, e0, e1]) rfl ⟨_, _, rfl, hrb, BX4.frm⟩
  · as_aux_lemma =>
    have HD := hid (fun (w1 : World) (hf : Frm No w w1) => releave_any R _ _ da w1 (HR.out w1 hf) hI)
    clear HR hI
    generalize leave R da = res at *
    obtain ⟨R2, er⟩ := res
    generalize R.mems.length = ml at *
    generalize R.clss.length = cl at *
    go_enter Tryz.func7, Tryz.ntmps7
    go_upto_region 1 with fail
    have X0 := Box.new (Frm.refl No w) [.slice mao ml mcp, .slice cao cl ccp] 31
    have Xd := Box.new X0.frm [.int .i64 x, .string ⟨da.toArray⟩, .string ⟨db.toArray⟩, .int .i64 dn] 34
    have X1 := Box.new Xd.frm [.slice none 0 0, .slice none 0 0] 31
    have Yd := Xd.no ((Frm.refl No _).alloc (.cells #[.slice none 0 0, .slice none 0 0] 31))
    have Y0 := (X0.no ((Frm.refl No _).alloc (.cells #[.int .i64 x, .string ⟨da.toArray⟩, .string ⟨db.toArray⟩, .int .i64 dn] 34))).no ((Frm.refl No _).alloc (.cells #[.slice none 0 0, .slice none 0 0] 31))
    simp only [World.size_alloc] at X1 Yd
    obtain ⟨W, hW⟩ : ∃ W, W = ((w.alloc (.cells #[.slice mao ml mcp, .slice cao cl ccp] 31)).alloc (.cells #[.int .i64 x, .string ⟨da.toArray⟩, .string ⟨db.toArray⟩, .int .i64 dn] 34)).alloc (.cells #[.slice none 0 0, .slice none 0 0] 31) := ⟨_, rfl⟩
    rw [← hW] at X1 Yd Y0 ⊢
    clear hW
    obtain ⟨b, hb⟩ : ∃ b, w.heap.size = b := ⟨_, rfl⟩
    rw [hb] at X1 Y0 Yd
    simp only [hb]
    have HX1 := hid X1
    have HY0 := hid Y0
    have HYd := hid Yd
    have cD := Yd.cell
    clear X0 X1 Xd Y0 Yd
    go_wp2_with (first | (go_at_call 20; refine (HK.out _).mono ?_; rintro e w1 ⟨rfl, hf1⟩; have BX := HX1.out.no hf1; have BY := HY0.out.no hf1; have cY := BY.cell; have BD := HYd.out.no hf1; have cD1 := BD.cell) | (go_at_call 27; refine (HD.out _ BX.frm).mono ?_; rintro e w2 ⟨mv2, cv2, rfl, hr2, hf2⟩; obtain ⟨a2, c2, a3, c3, rfl, rfl⟩ := hr2.shapes; have BX2 := BX.no hf2; have cX2 := BX2.cell; have fX2 := BX2.fr))
    have BX4 := (BX2.set 0 (by simp) (.slice a2 R2.mems.length c2)).set 1 (by simp) (.slice a3 R2.clss.length c3)
    have e0 := BX4.cell 0
    have e1 := BX4.cell 1
    have hrb := hr2.box (E := b + 1 + 1) (fun j s e => noStr2 ⟨_, _, _, rfl⟩ ⟨_, _, _, rfl⟩ j s (by rw [← cX2 j]; exact e)) ((setCell_own _).then_ (setCell_own _) : Frm (One (b + 1 + 1)) w2 ((w2.setCell ⟨b + 1 + 1, 0, none⟩ (.slice a2 R2.mems.length c2)).setCell ⟨b + 1 + 1, 1, none⟩ (.slice a3 R2.clss.length c3)))
    simp only [List.set_cons_zero, List.set_cons_succ, List.getElem?_cons_zero, List.getElem?_cons_succ] at e0 e1
    refine bodyPost_ret (v := .tuple #[.agg #[.slice a2 R2.mems.length c2, .slice a3 R2.clss.length c3], .int .i64 er]) (by simp [results, Tryz.results7, go_sem, e0, e1]) rfl ⟨_, _, rfl, hrb, BX4.frm⟩
  · as_aux_lemma =>
    have HD := hid (fun (w1 : World) (hf : Frm No w w1) => regrant_any R _ _ da dn w1 (HR.out w1 hf) hI)
    clear HR hI
    generalize grant R da dn = res at *
    obtain ⟨R2, er⟩ := res
    generalize R.mems.length = ml at *
    generalize R.clss.length = cl at *
    go_enter Tryz.func7, Tryz.ntmps7
    go_upto_region 1 with fail
    have X0 := Box.new (Frm.refl No w) [.slice mao ml mcp, .slice cao cl ccp] 31
    have Xd := Box.new X0.frm [.int .i64 x, .string ⟨da.toArray⟩, .string ⟨db.toArray⟩, .int .i64 dn] 34
    have X1 := Box.new Xd.frm [.slice none 0 0, .slice none 0 0] 31
    have Yd := Xd.no ((Frm.refl No _).alloc (.cells #[.slice none 0 0, .slice none 0 0] 31))
    have Y0 := (X0.no ((Frm.refl No _).alloc (.cells #[.int .i64 x, .string ⟨da.toArray⟩, .string ⟨db.toArray⟩, .int .i64 dn] 34))).no ((Frm.refl No _).alloc (.cells #[.slice none 0 0, .slice none 0 0] 31))
    simp only [World.size_alloc] at X1 Yd
    obtain ⟨W, hW⟩ : ∃ W, W = ((w.alloc (.cells #[.slice mao ml mcp, .slice cao cl ccp] 31)).alloc (.cells #[.int .i64 x, .string ⟨da.toArray⟩, .string ⟨db.toArray⟩, .int .i64 dn] 34)).alloc (.cells #[.slice none 0 0, .slice none 0 0] 31) := ⟨_, rfl⟩
    rw [← hW] at X1 Yd Y0 ⊢
    clear hW
    obtain ⟨b, hb⟩ : ∃ b, w.heap.size = b := ⟨_, rfl⟩
    rw [hb] at X1 Y0 Yd
    simp only [hb]
    have HX1 := hid X1
    have HY0 := hid Y0
    have HYd := hid Yd
    have cD := Yd.cell
    clear X0 X1 Xd Y0 Yd
    go_wp2_with (first | (go_at_call 20; refine (HK.out _).mono ?_; rintro e w1 ⟨rfl, hf1⟩; have BX := HX1.out.no hf1; have BY := HY0.out.no hf1; have cY := BY.cell; have BD := HYd.out.no hf1; have cD1 := BD.cell) | (go_at_call 28; refine (HD.out _ BX.frm).mono ?_; rintro e w2 ⟨mv2, cv2, rfl, hr2, hf2⟩; obtain ⟨a2, c2, a3, c3, rfl, rfl⟩ := hr2.shapes; have BX2 := BX.no hf2; have cX2 := BX2.cell; have fX2 := BX2.fr))
    have BX4 := (BX2.set 0 (by simp) (.slice a2 R2.mems.length c2)).set 1 (by simp) (.slice a3 R2.clss.length c3)
    have e0 := BX4.cell 0
    have e1 := BX4.cell 1
    have hrb := hr2.box (E := b + 1 + 1) (fun j s e => noStr2 ⟨_, _, _, rfl⟩ ⟨_, _, _, rfl⟩ j s (by rw [← cX2 j]; exact e)) ((setCell_own _).then_ (setCell_own _) : Frm (One (b + 1 + 1)) w2 ((w2.setCell ⟨b + 1 + 1, 0, none⟩ (.slice a2 R2.mems.length c2)).setCell ⟨b + 1 + 1, 1, none⟩ (.slice a3 R2.clss.length c3)))
    simp only [List.set_cons_zero, List.set_cons_succ, List.getElem?_cons_zero, List.getElem?_cons_succ] at e0 e1
    refine bodyPost_ret (v := .tuple #[.agg #[.slice a2 R2.mems.length c2, .slice a3 R2.clss.length c3], .int .i64 er]) (by simp [results, Tryz.results7, go_sem, e0, e1]) rfl ⟨_, _, rfl, hrb, BX4.frm⟩
  · as_aux_lemma =>
    have HD := hid (fun (w1 : World) (hf : Frm No w w1) => reopen_any R _ _ da db w1 (HR.out w1 hf) hI (by omega))
    clear HR hI
    generalize open_ R da db = res at *
    obtain ⟨R2, er⟩ := res
    generalize R.mems.length = ml at *
    generalize R.clss.length = cl at *
    go_enter Tryz.func7, Tryz.ntmps7
    go_upto_region 1 with fail
    have X0 := Box.new (Frm.refl No w) [.slice mao ml mcp, .slice cao cl ccp] 31
    have Xd := Box.new X0.frm [.int .i64 x, .string ⟨da.toArray⟩, .string ⟨db.toArray⟩, .int .i64 dn] 34
    have X1 := Box.new Xd.frm [.slice none 0 0, .slice none 0 0] 31
    have Yd := Xd.no ((Frm.refl No _).alloc (.cells #[.slice none 0 0, .slice none 0 0] 31))
    have Y0 := (X0.no ((Frm.refl No _).alloc (.cells #[.int .i64 x, .string ⟨da.toArray⟩, .string ⟨db.toArray⟩, .int .i64 dn] 34))).no ((Frm.refl No _).alloc (.cells #[.slice none 0 0, .slice none 0 0] 31))
    simp only [World.size_alloc] at X1 Yd
    obtain ⟨W, hW⟩ : ∃ W, W = ((w.alloc (.cells #[.slice mao ml mcp, .slice cao cl ccp] 31)).alloc (.cells #[.int .i64 x, .string ⟨da.toArray⟩, .string ⟨db.toArray⟩, .int .i64 dn] 34)).alloc (.cells #[.slice none 0 0, .slice none 0 0] 31) := ⟨_, rfl⟩
    rw [← hW] at X1 Yd Y0 ⊢
    clear hW
    obtain ⟨b, hb⟩ : ∃ b, w.heap.size = b := ⟨_, rfl⟩
    rw [hb] at X1 Y0 Yd
    simp only [hb]
    have HX1 := hid X1
    have HY0 := hid Y0
    have HYd := hid Yd
    have cD := Yd.cell
    clear X0 X1 Xd Y0 Yd
    go_wp2_with (first | (go_at_call 20; refine (HK.out _).mono ?_; rintro e w1 ⟨rfl, hf1⟩; have BX := HX1.out.no hf1; have BY := HY0.out.no hf1; have cY := BY.cell; have BD := HYd.out.no hf1; have cD1 := BD.cell) | (go_at_call 29; refine (HD.out _ BX.frm).mono ?_; rintro e w2 ⟨mv2, cv2, rfl, hr2, hf2⟩; obtain ⟨a2, c2, a3, c3, rfl, rfl⟩ := hr2.shapes; have BX2 := BX.no hf2; have cX2 := BX2.cell; have fX2 := BX2.fr))
    have BX4 := (BX2.set 0 (by simp) (.slice a2 R2.mems.length c2)).set 1 (by simp) (.slice a3 R2.clss.length c3)
    have e0 := BX4.cell 0
    have e1 := BX4.cell 1
    have hrb := hr2.box (E := b + 1 + 1) (fun j s e => noStr2 ⟨_, _, _, rfl⟩ ⟨_, _, _, rfl⟩ j s (by rw [← cX2 j]; exact e)) ((setCell_own _).then_ (setCell_own _) : Frm (One (b + 1 + 1)) w2 ((w2.setCell ⟨b + 1 + 1, 0, none⟩ (.slice a2 R2.mems.length c2)).setCell ⟨b + 1 + 1, 1, none⟩ (.slice a3 R2.clss.length c3)))
    simp only [List.set_cons_zero, List.set_cons_succ, List.getElem?_cons_zero, List.getElem?_cons_succ] at e0 e1
    refine bodyPost_ret (v := .tuple #[.agg #[.slice a2 R2.mems.length c2, .slice a3 R2.clss.length c3], .int .i64 er]) (by simp [results, Tryz.results7, go_sem, e0, e1]) rfl ⟨_, _, rfl, hrb, BX4.frm⟩
  · as_aux_lemma =>
    have HD := hid (fun (w1 : World) (hf : Frm No w w1) => reclose_any R _ _ da w1 (HR.out w1 hf) hI)
    clear HR hI
    generalize close R da = res at *
    obtain ⟨R2, er⟩ := res
    generalize R.mems.length = ml at *
    generalize R.clss.length = cl at *
    go_enter Tryz.func7, Tryz.ntmps7
    go_upto_region 1 with fail
    have X0 := Box.new (Frm.refl No w) [.slice mao ml mcp, .slice cao cl ccp] 31
    have Xd := Box.new X0.frm [.int .i64 x, .string ⟨da.toArray⟩, .string ⟨db.toArray⟩, .int .i64 dn] 34
    have X1 := Box.new Xd.frm [.slice none 0 0, .slice none 0 0] 31
    have Yd := Xd.no ((Frm.refl No _).alloc (.cells #[.slice none 0 0, .slice none 0 0] 31))
    have Y0 := (X0.no ((Frm.refl No _).alloc (.cells #[.int .i64 x, .string ⟨da.toArray⟩, .string ⟨db.toArray⟩, .int .i64 dn] 34))).no ((Frm.refl No _).alloc (.cells #[.slice none 0 0, .slice none 0 0] 31))
    simp only [World.size_alloc] at X1 Yd
    obtain ⟨W, hW⟩ : ∃ W, W = ((w.alloc (.cells #[.slice mao ml mcp, .slice cao cl ccp] 31)).alloc (.cells #[.int .i64 x, .string ⟨da.toArray⟩, .string ⟨db.toArray⟩, .int .i64 dn] 34)).alloc (.cells #[.slice none 0 0, .slice none 0 0] 31) := ⟨_, rfl⟩
    rw [← hW] at X1 Yd Y0 ⊢
    clear hW
    obtain ⟨b, hb⟩ : ∃ b, w.heap.size = b := ⟨_, rfl⟩
    rw [hb] at X1 Y0 Yd
    simp only [hb]
    have HX1 := hid X1
    have HY0 := hid Y0
    have HYd := hid Yd
    have cD := Yd.cell
    clear X0 X1 Xd Y0 Yd
    go_wp2_with (first | (go_at_call 20; refine (HK.out _).mono ?_; rintro e w1 ⟨rfl, hf1⟩; have BX := HX1.out.no hf1; have BY := HY0.out.no hf1; have cY := BY.cell; have BD := HYd.out.no hf1; have cD1 := BD.cell) | (go_at_call 30; refine (HD.out _ BX.frm).mono ?_; rintro e w2 ⟨mv2, cv2, rfl, hr2, hf2⟩; obtain ⟨a2, c2, a3, c3, rfl, rfl⟩ := hr2.shapes; have BX2 := BX.no hf2; have cX2 := BX2.cell; have fX2 := BX2.fr))
    have BX4 := (BX2.set 0 (by simp) (.slice a2 R2.mems.length c2)).set 1 (by simp) (.slice a3 R2.clss.length c3)
    have e0 := BX4.cell 0
    have e1 := BX4.cell 1
    have hrb := hr2.box (E := b + 1 + 1) (fun j s e => noStr2 ⟨_, _, _, rfl⟩ ⟨_, _, _, rfl⟩ j s (by rw [← cX2 j]; exact e)) ((setCell_own _).then_ (setCell_own _) : Frm (One (b + 1 + 1)) w2 ((w2.setCell ⟨b + 1 + 1, 0, none⟩ (.slice a2 R2.mems.length c2)).setCell ⟨b + 1 + 1, 1, none⟩ (.slice a3 R2.clss.length c3)))
    simp only [List.set_cons_zero, List.set_cons_succ, List.getElem?_cons_zero, List.getElem?_cons_succ] at e0 e1
    refine bodyPost_ret (v := .tuple #[.agg #[.slice a2 R2.mems.length c2, .slice a3 R2.clss.length c3], .int .i64 er]) (by simp [results, Tryz.results7, go_sem, e0, e1]) rfl ⟨_, _, rfl, hrb, BX4.frm⟩
  · as_aux_lemma =>
    have HD := hid (fun (w1 : World) (hf : Frm No w w1) => rejoin_any R _ _ da db w1 (HR.out w1 hf) hI)
    clear HR hI
    generalize join R da db = res at *
    obtain ⟨R2, er⟩ := res
    generalize R.mems.length = ml at *
    generalize R.clss.length = cl at *
    go_enter Tryz.func7, Tryz.ntmps7
    go_upto_region 1 with fail
    have X0 := Box.new (Frm.refl No w) [.slice mao ml mcp, .slice cao cl ccp] 31
    have Xd := Box.new X0.frm [.int .i64 x, .string ⟨da.toArray⟩, .string ⟨db.toArray⟩, .int .i64 dn] 34
    have X1 := Box.new Xd.frm [.slice none 0 0, .slice none 0 0] 31
    have Yd := Xd.no ((Frm.refl No _).alloc (.cells #[.slice none 0 0, .slice none 0 0] 31))
    have Y0 := (X0.no ((Frm.refl No _).alloc (.cells #[.int .i64 x, .string ⟨da.toArray⟩, .string ⟨db.toArray⟩, .int .i64 dn] 34))).no ((Frm.refl No _).alloc (.cells #[.slice none 0 0, .slice none 0 0] 31))
    simp only [World.size_alloc] at X1 Yd
    obtain ⟨W, hW⟩ : ∃ W, W = ((w.alloc (.cells #[.slice mao ml mcp, .slice cao cl ccp] 31)).alloc (.cells #[.int .i64 x, .string ⟨da.toArray⟩, .string ⟨db.toArray⟩, .int .i64 dn] 34)).alloc (.cells #[.slice none 0 0, .slice none 0 0] 31) := ⟨_, rfl⟩
    rw [← hW] at X1 Yd Y0 ⊢
    clear hW
    obtain ⟨b, hb⟩ : ∃ b, w.heap.size = b := ⟨_, rfl⟩
    rw [hb] at X1 Y0 Yd
    simp only [hb]
    have HX1 := hid X1
    have HY0 := hid Y0
    have HYd := hid Yd
    have cD := Yd.cell
    clear X0 X1 Xd Y0 Yd
    go_wp2_with (first | (go_at_call 20; refine (HK.out _).mono ?_; rintro e w1 ⟨rfl, hf1⟩; have BX := HX1.out.no hf1; have BY := HY0.out.no hf1; have cY := BY.cell; have BD := HYd.out.no hf1; have cD1 := BD.cell) | (go_at_call 31; refine (HD.out _ BX.frm).mono ?_; rintro e w2 ⟨mv2, cv2, rfl, hr2, hf2⟩; obtain ⟨a2, c2, a3, c3, rfl, rfl⟩ := hr2.shapes; have BX2 := BX.no hf2; have cX2 := BX2.cell; have fX2 := BX2.fr))
    have BX4 := (BX2.set 0 (by simp) (.slice a2 R2.mems.length c2)).set 1 (by simp) (.slice a3 R2.clss.length c3)
    have e0 := BX4.cell 0
    have e1 := BX4.cell 1
    have hrb := hr2.box (E := b + 1 + 1) (fun j s e => noStr2 ⟨_, _, _, rfl⟩ ⟨_, _, _, rfl⟩ j s (by rw [← cX2 j]; exact e)) ((setCell_own _).then_ (setCell_own _) : Frm (One (b + 1 + 1)) w2 ((w2.setCell ⟨b + 1 + 1, 0, none⟩ (.slice a2 R2.mems.length c2)).setCell ⟨b + 1 + 1, 1, none⟩ (.slice a3 R2.clss.length c3)))
    simp only [List.set_cons_zero, List.set_cons_succ, List.getElem?_cons_zero, List.getElem?_cons_succ] at e0 e1
    refine bodyPost_ret (v := .tuple #[.agg #[.slice a2 R2.mems.length c2, .slice a3 R2.clss.length c3], .int .i64 er]) (by simp [results, Tryz.results7, go_sem, e0, e1]) rfl ⟨_, _, rfl, hrb, BX4.frm⟩
  · as_aux_lemma =>
    have HD := hid (fun (w1 : World) (hf : Frm No w w1) => repart_any R _ _ da db w1 (HR.out w1 hf) hI)
    clear HR hI
    generalize Roll.part R da db = res at *
    obtain ⟨R2, er⟩ := res
    generalize R.mems.length = ml at *
    generalize R.clss.length = cl at *
    go_enter Tryz.func7, Tryz.ntmps7
    go_upto_region 1 with fail
    have X0 := Box.new (Frm.refl No w) [.slice mao ml mcp, .slice cao cl ccp] 31
    have Xd := Box.new X0.frm [.int .i64 x, .string ⟨da.toArray⟩, .string ⟨db.toArray⟩, .int .i64 dn] 34
    have X1 := Box.new Xd.frm [.slice none 0 0, .slice none 0 0] 31
    have Yd := Xd.no ((Frm.refl No _).alloc (.cells #[.slice none 0 0, .slice none 0 0] 31))
    have Y0 := (X0.no ((Frm.refl No _).alloc (.cells #[.int .i64 x, .string ⟨da.toArray⟩, .string ⟨db.toArray⟩, .int .i64 dn] 34))).no ((Frm.refl No _).alloc (.cells #[.slice none 0 0, .slice none 0 0] 31))
    simp only [World.size_alloc] at X1 Yd
    obtain ⟨W, hW⟩ : ∃ W, W = ((w.alloc (.cells #[.slice mao ml mcp, .slice cao cl ccp] 31)).alloc (.cells #[.int .i64 x, .string ⟨da.toArray⟩, .string ⟨db.toArray⟩, .int .i64 dn] 34)).alloc (.cells #[.slice none 0 0, .slice none 0 0] 31) := ⟨_, rfl⟩
    rw [← hW] at X1 Yd Y0 ⊢
    clear hW
    obtain ⟨b, hb⟩ : ∃ b, w.heap.size = b := ⟨_, rfl⟩
    rw [hb] at X1 Y0 Yd
    simp only [hb]
    have HX1 := hid X1
    have HY0 := hid Y0
    have HYd := hid Yd
    have cD := Yd.cell
    clear X0 X1 Xd Y0 Yd
    go_wp2_with (first | (go_at_call 20; refine (HK.out _).mono ?_; rintro e w1 ⟨rfl, hf1⟩; have BX := HX1.out.no hf1; have BY := HY0.out.no hf1; have cY := BY.cell; have BD := HYd.out.no hf1; have cD1 := BD.cell) | (go_at_call 32; refine (HD.out _ BX.frm).mono ?_; rintro e w2 ⟨mv2, cv2, rfl, hr2, hf2⟩; obtain ⟨a2, c2, a3, c3, rfl, rfl⟩ := hr2.shapes; have BX2 := BX.no hf2; have cX2 := BX2.cell; have fX2 := BX2.fr))
    have BX4 := (BX2.set 0 (by simp) (.slice a2 R2.mems.length c2)).set 1 (by simp) (.slice a3 R2.clss.length c3)
    have e0 := BX4.cell 0
    have e1 := BX4.cell 1
    have hrb := hr2.box (E := b + 1 + 1) (fun j s e => noStr2 ⟨_, _, _, rfl⟩ ⟨_, _, _, rfl⟩ j s (by rw [← cX2 j]; exact e)) ((setCell_own _).then_ (setCell_own _) : Frm (One (b + 1 + 1)) w2 ((w2.setCell ⟨b + 1 + 1, 0, none⟩ (.slice a2 R2.mems.length c2)).setCell ⟨b + 1 + 1, 1, none⟩ (.slice a3 R2.clss.length c3)))
    simp only [List.set_cons_zero, List.set_cons_succ, List.getElem?_cons_zero, List.getElem?_cons_succ] at e0 e1
    refine bodyPost_ret (v := .tuple #[.agg #[.slice a2 R2.mems.length c2, .slice a3 R2.clss.length c3], .int .i64 er]) (by simp [results, Tryz.results7, go_sem, e0, e1]) rfl ⟨_, _, rfl, hrb, BX4.frm⟩
end Go.Proofs.YtofcmghhmklmiaaGreat
