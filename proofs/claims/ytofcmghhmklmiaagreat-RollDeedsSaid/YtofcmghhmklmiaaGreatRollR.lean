/- A deed of the roll's laws: read from an argument; kind, long, do. Printed by a program (rollr.py). -/
import Derived.Test.YtofcmghhmklmiaaGreatRollO
import Derived.Test.YtofcmghhmklmiaaGreatRollJ
namespace Go.Proofs.YtofcmghhmklmiaaGreat
open Go.ChangeShapes Go.WideShapes Go.ChangeAt Go.RowKit Go.Deep
open Roll
structure Deed where
  what : Int
  a : B
  b : B
  n : Int
def deedV (d : Deed) : List Value := [.int .i64 d.what, .string ⟨d.a.toArray⟩, .string ⟨d.b.toArray⟩, .int .i64 d.n]
def DeedOK (d : Deed) : Prop := Fits d.what ∧ d.a.length ≤ maxLen ∧ d.b.length ≤ maxLen ∧ Fits d.n
def k7 (x : Int) : Nat := ((wrap64 (x.tmod 7 + 7)).tmod 7).toNat
theorem k7_is (x : Int) : (wrap64 (x.tmod 7 + 7)).tmod 7 = (k7 x : Int) ∧ k7 x < 7 := by
  have h1 := Int.lt_tmod_of_pos x (b := 7) (by omega)
  have h2 := Int.tmod_lt_of_pos x (b := 7) (by omega)
  unfold k7
  rw [IntWalk.wrap64_in _ (by omega), Int.tmod_eq_emod_of_nonneg (by omega)]
  omega
/-- What a deed does to a roll. -/
def deed (R : Rl) (d : Deed) : Rl × Int :=
  match k7 d.what with
  | 0 => enrol R d.a d.n
  | 1 => leave R d.a
  | 2 => grant R d.a d.n
  | 3 => open_ R d.a d.b
  | 4 => close R d.a
  | 5 => join R d.a d.b
  | _ => Roll.part R d.a d.b
theorem inv_deed {R : Rl} (h : Inv R) (d : Deed) : Inv (deed R d).1 := by
  unfold deed
  split
  · exact inv_enrol h _ _
  · exact inv_leave h _
  · exact inv_grant h _ _
  · exact inv_open h _ _
  · exact inv_close h _
  · exact inv_join h _ _
  · exact inv_part h _ _
theorem cells_deed : Tryz.prog.cellsOf 34 = 4 := by kernel_rfl
theorem len4 {α : Type} {l : List α} (h : l.length = 4) : ∃ a b c d, l = [a, b, c, d] := by
  match l, h with
  | [a, b, c, d], _ => exact ⟨a, b, c, d, rfl⟩
theorem el_deed {H : Type} {enc : TypeId × Value → H} {W : World} {cs : List Value} {n : Nat} {x : DataW H × List MemPlace} (hl : cs.length = 4) (h : DataW.trod enc Tryz.prog W 0 (fun _ => true) true n 34 cs = some x) :
    ∃ y : Deed, cs = deedV y ∧ DeedOK y := by
  obtain ⟨c0, c1, c2, c3, rfl⟩ := len4 hl
  have F := fun j f hj c hc => trod_fld Tryz.underlying34 (by kernel_rfl) h j f hj c hc
  obtain ⟨n0, y0, h0⟩ := F 0 _ rfl _ rfl
  obtain ⟨n1, y1, h1⟩ := F 1 _ rfl _ rfl
  obtain ⟨n2, y2, h2⟩ := F 2 _ rfl _ rfl
  obtain ⟨n3, y3, h3⟩ := F 3 _ rfl _ rfl
  obtain ⟨k0, e0, g0⟩ := el_int h0
  obtain ⟨k1, e1, g1⟩ := el_string h1
  obtain ⟨k2, e2, g2⟩ := el_string h2
  obtain ⟨k3, e3, g3⟩ := el_int h3
  simp only [List.cons.injEq, and_true] at e0 e1 e2 e3
  subst e0 e1 e2 e3
  exact ⟨⟨k0, k1, k2, k3⟩, rfl, g0, g1, g2, g3⟩
theorem open_deeds {H : Type} {enc : TypeId × Value → H} {W : World} {v : Value} {d : DataW H} {ps : List MemPlace} (h : DataW.Trod enc Tryz.prog W 0 (fun _ => true) true 22 v d ps) (hv : ∃ a l c, v = .slice a l c) :
    ∃ xs : List Deed, RdL W v 4 deedV xs ∧ xs.length ≤ maxLen ∧ ∀ y ∈ xs, DeedOK y :=
  open_list Tryz.underlying22 cells_deed (by omega) h hv (fun _ _ _ hl h => el_deed hl h)
theorem deed_at {w w' : World} {ao : Option Addr} {c : Nat} {xs : List Deed} (h : RdL w (.slice ao xs.length c) 4 deedV xs) (hf : Frm No w w') (k : Nat) (hk : k < xs.length) : ∃ b o, ao = some ⟨b, o, none⟩ ∧ b < w.heap.size ∧ w'.cell? ⟨b, o + k * 4, none⟩ = some (.int .i64 xs[k].what) ∧
    w'.cell? ⟨b, o + k * 4 + 1, none⟩ = some (.string ⟨xs[k].a.toArray⟩) ∧ w'.cell? ⟨b, o + k * 4 + 2, none⟩ = some (.string ⟨xs[k].b.toArray⟩) ∧ w'.cell? ⟨b, o + k * 4 + 3, none⟩ = some (.int .i64 xs[k].n) := by
  obtain ⟨b, o, e, hc⟩ := h.at_ (by omega)
  have h0 : w.cell? ⟨b, o + k * 4, none⟩ = some (.int .i64 xs[k].what) := hc k hk 0 (by omega)
  have hb : b < w.heap.size := World.block_lt_of_cell? w _ h0
  have g := fun j (hj : j < 4) => (hf.cell (p := ⟨b, o + (k * 4 + j), none⟩) hb (fun h => h)).trans (hc k hk j hj)
  refine ⟨b, o, e, hb, g 0 (by omega), ?_, ?_, ?_⟩
  all_goals
    rw [Nat.add_assoc]
    first | exact g 1 (by omega) | exact g 2 (by omega) | exact g 3 (by omega)
theorem kind_any (d : Deed) (w : World) :
    Calls Tryz.prog 20 #[.agg #[.int .i64 d.what, .string ⟨d.a.toArray⟩, .string ⟨d.b.toArray⟩, .int .i64 d.n]] w fun e w' => e = .returned (.int .i64 (k7 d.what : Int)) ∧ Frm No w w' := by
  obtain ⟨x, a, b, n⟩ := d
  dsimp only
  obtain ⟨h7, -⟩ := k7_is x
  go_enter Tryz.func20, Tryz.ntmps20
  go_wp2_with fail
  go_ret
  exact ⟨rfl, (Frm.refl No w).alloc _⟩
theorem long_any (d : Deed) (w : World) :
    Calls Tryz.prog 5 #[.agg #[.int .i64 d.what, .string ⟨d.a.toArray⟩, .string ⟨d.b.toArray⟩, .int .i64 d.n]] w fun e w' => e = .returned (.bool (decide (200 < d.a.length ∨ 200 < d.b.length))) ∧ Frm No w w' := by
  obtain ⟨x, a, b, n⟩ := d
  dsimp only
  obtain ⟨al, hal⟩ : ∃ al, a.length = al := ⟨_, rfl⟩
  obtain ⟨bl, hbl⟩ : ∃ bl, b.length = bl := ⟨_, rfl⟩
  have ha : (⟨a.toArray⟩ : ByteArray).size = al := by rw [← hal]; rfl
  have hb : (⟨b.toArray⟩ : ByteArray).size = bl := by rw [← hbl]; rfl
  rw [hal, hbl]
  generalize (⟨a.toArray⟩ : ByteArray) = A at *
  generalize (⟨b.toArray⟩ : ByteArray) = C at *
  clear hal hbl
  by_cases h1 : 200 < al
  · go_enter Tryz.func5, Tryz.ntmps5
    go_wp2_with fail
    go_ret
    refine ⟨?_, (Frm.refl No w).alloc _⟩
    simp
  · have h1z : ¬ (200 : Int) < (al : Int) := by omega
    go_enter Tryz.func5, Tryz.ntmps5
    go_wp2_with fail
    go_ret
    refine ⟨?_, (Frm.refl No w).alloc _⟩
    simp
    exact Int.ofNat_lt (n := 200)
set_option maxRecDepth 100000 in
set_option maxHeartbeats 4000000 in
theorem do_any (R : Rl) (mv cv : Value) (d : Deed) (w : World) (hr : RlR w mv cv R) (hI : Inv R) (ha : d.a.length ≤ 200) :
    Calls Tryz.prog 6 #[.agg #[mv, cv], .agg #[.int .i64 d.what, .string ⟨d.a.toArray⟩, .string ⟨d.b.toArray⟩, .int .i64 d.n]] w (DeedP w (deed R d)) := by
  have HK := hid (fun w1 => kind_any d w1)
  obtain ⟨mao, mcp, cao, ccp, rfl, rfl⟩ := hr.shapes
  have hlt := (k7_is d.what).2
  have hdf : deed R d = (match k7 d.what with
    | 0 => enrol R d.a d.n
    | 1 => leave R d.a
    | 2 => grant R d.a d.n
    | 3 => open_ R d.a d.b
    | 4 => close R d.a
    | 5 => join R d.a d.b
    | _ => Roll.part R d.a d.b) := rfl
  rw [hdf]
  clear hdf
  obtain ⟨k, hk⟩ : ∃ k, k7 d.what = k := ⟨_, rfl⟩
  rw [hk] at HK hlt ⊢
  clear hk
  obtain ⟨x, da, db, dn⟩ := d
  dsimp only at HK ha ⊢
  have HR := hid (fun (w1 : World) (hf : Frm No w w1) => hr.no hf)
  clear hr
  rcases (show k = 0 ∨ k = 1 ∨ k = 2 ∨ k = 3 ∨ k = 4 ∨ k = 5 ∨ k = 6 by omega) with rfl | rfl | rfl | rfl | rfl | rfl | rfl
  · as_aux_lemma =>
    have HD := hid (fun (w1 : World) (hf : Frm No w w1) => renrol_any R _ _ da dn w1 (HR.out w1 hf) hI (by omega))
    clear HR hI
    generalize enrol R da dn = res at *
    obtain ⟨R2, er⟩ := res
    generalize R.mems.length = ml at *
    generalize R.clss.length = cl at *
    go_enter Tryz.func6, Tryz.ntmps6
    go_upto_region 1 with fail
    have X0 := Box.new (Frm.refl No w) [.slice mao ml mcp, .slice cao cl ccp] 27
    have Xd := Box.new X0.frm [.int .i64 x, .string ⟨da.toArray⟩, .string ⟨db.toArray⟩, .int .i64 dn] 34
    have X1 := Box.new Xd.frm [.slice none 0 0, .slice none 0 0] 27
    have Yd := Xd.no ((Frm.refl No _).alloc (.cells #[.slice none 0 0, .slice none 0 0] 27))
    have Y0 := (X0.no ((Frm.refl No _).alloc (.cells #[.int .i64 x, .string ⟨da.toArray⟩, .string ⟨db.toArray⟩, .int .i64 dn] 34))).no ((Frm.refl No _).alloc (.cells #[.slice none 0 0, .slice none 0 0] 27))
    simp only [World.size_alloc] at X1 Yd
    obtain ⟨W, hW⟩ : ∃ W, W = ((w.alloc (.cells #[.slice mao ml mcp, .slice cao cl ccp] 27)).alloc (.cells #[.int .i64 x, .string ⟨da.toArray⟩, .string ⟨db.toArray⟩, .int .i64 dn] 34)).alloc (.cells #[.slice none 0 0, .slice none 0 0] 27) := ⟨_, rfl⟩
    rw [← hW] at X1 Yd Y0 ⊢
    clear hW
    obtain ⟨b, hb⟩ : ∃ b, w.heap.size = b := ⟨_, rfl⟩
    rw [hb] at X1 Y0 Yd
    simp only [hb]
    have HX1 := hid X1
    have HY0 := hid Y0
    have HYd := hid Yd
    have cD := Yd.cell
    clear X0 X1 Xd Y0 Yd
    go_wp2_with (first | (go_at_call 20; refine (HK.out _).mono ?_; rintro e w1 ⟨rfl, hf1⟩; have BX := HX1.out.no hf1; have BY := HY0.out.no hf1; have cY := BY.cell; have BD := HYd.out.no hf1; have cD1 := BD.cell) | (go_at_call 18; refine (HD.out _ BX.frm).mono ?_; rintro e w2 ⟨mv2, cv2, rfl, hr2, hf2⟩; obtain ⟨a2, c2, a3, c3, rfl, rfl⟩ := hr2.shapes; have BX2 := BX.no hf2; have cX2 := BX2.cell; have fX2 := BX2.fr))
    have BX4 := (BX2.set 0 (by simp) (.slice a2 R2.mems.length c2)).set 1 (by simp) (.slice a3 R2.clss.length c3)
    have e0 := BX4.cell 0
    have e1 := BX4.cell 1
    have hrb := hr2.box (E := b + 1 + 1) (fun j s e => noStr2 ⟨_, _, _, rfl⟩ ⟨_, _, _, rfl⟩ j s (by rw [← cX2 j]; exact e)) ((setCell_own _).then_ (setCell_own _) : Frm (One (b + 1 + 1)) w2 ((w2.setCell ⟨b + 1 + 1, 0, none⟩ (.slice a2 R2.mems.length c2)).setCell ⟨b + 1 + 1, 1, none⟩ (.slice a3 R2.clss.length c3)))
    simp only [List.set_cons_zero, List.set_cons_succ, List.getElem?_cons_zero, List.getElem?_cons_succ] at e0 e1
    refine bodyPost_ret (v := .tuple #[.agg #[.slice a2 R2.mems.length c2, .slice a3 R2.clss.length c3], .int .i64 er]) (by simp [results, Tryz.results6, go_sem, e0, e1]) rfl ⟨_, _, rfl, hrb, BX4.frm⟩
  · as_aux_lemma =>
    have HD := hid (fun (w1 : World) (hf : Frm No w w1) => rleave_any R _ _ da w1 (HR.out w1 hf) hI)
    clear HR hI
    generalize leave R da = res at *
    obtain ⟨R2, er⟩ := res
    generalize R.mems.length = ml at *
    generalize R.clss.length = cl at *
    go_enter Tryz.func6, Tryz.ntmps6
    go_upto_region 1 with fail
    have X0 := Box.new (Frm.refl No w) [.slice mao ml mcp, .slice cao cl ccp] 27
    have Xd := Box.new X0.frm [.int .i64 x, .string ⟨da.toArray⟩, .string ⟨db.toArray⟩, .int .i64 dn] 34
    have X1 := Box.new Xd.frm [.slice none 0 0, .slice none 0 0] 27
    have Yd := Xd.no ((Frm.refl No _).alloc (.cells #[.slice none 0 0, .slice none 0 0] 27))
    have Y0 := (X0.no ((Frm.refl No _).alloc (.cells #[.int .i64 x, .string ⟨da.toArray⟩, .string ⟨db.toArray⟩, .int .i64 dn] 34))).no ((Frm.refl No _).alloc (.cells #[.slice none 0 0, .slice none 0 0] 27))
    simp only [World.size_alloc] at X1 Yd
    obtain ⟨W, hW⟩ : ∃ W, W = ((w.alloc (.cells #[.slice mao ml mcp, .slice cao cl ccp] 27)).alloc (.cells #[.int .i64 x, .string ⟨da.toArray⟩, .string ⟨db.toArray⟩, .int .i64 dn] 34)).alloc (.cells #[.slice none 0 0, .slice none 0 0] 27) := ⟨_, rfl⟩
    rw [← hW] at X1 Yd Y0 ⊢
    clear hW
    obtain ⟨b, hb⟩ : ∃ b, w.heap.size = b := ⟨_, rfl⟩
    rw [hb] at X1 Y0 Yd
    simp only [hb]
    have HX1 := hid X1
    have HY0 := hid Y0
    have HYd := hid Yd
    have cD := Yd.cell
    clear X0 X1 Xd Y0 Yd
    go_wp2_with (first | (go_at_call 20; refine (HK.out _).mono ?_; rintro e w1 ⟨rfl, hf1⟩; have BX := HX1.out.no hf1; have BY := HY0.out.no hf1; have cY := BY.cell; have BD := HYd.out.no hf1; have cD1 := BD.cell) | (go_at_call 21; refine (HD.out _ BX.frm).mono ?_; rintro e w2 ⟨mv2, cv2, rfl, hr2, hf2⟩; obtain ⟨a2, c2, a3, c3, rfl, rfl⟩ := hr2.shapes; have BX2 := BX.no hf2; have cX2 := BX2.cell; have fX2 := BX2.fr))
    have BX4 := (BX2.set 0 (by simp) (.slice a2 R2.mems.length c2)).set 1 (by simp) (.slice a3 R2.clss.length c3)
    have e0 := BX4.cell 0
    have e1 := BX4.cell 1
    have hrb := hr2.box (E := b + 1 + 1) (fun j s e => noStr2 ⟨_, _, _, rfl⟩ ⟨_, _, _, rfl⟩ j s (by rw [← cX2 j]; exact e)) ((setCell_own _).then_ (setCell_own _) : Frm (One (b + 1 + 1)) w2 ((w2.setCell ⟨b + 1 + 1, 0, none⟩ (.slice a2 R2.mems.length c2)).setCell ⟨b + 1 + 1, 1, none⟩ (.slice a3 R2.clss.length c3)))
    simp only [List.set_cons_zero, List.set_cons_succ, List.getElem?_cons_zero, List.getElem?_cons_succ] at e0 e1
    refine bodyPost_ret (v := .tuple #[.agg #[.slice a2 R2.mems.length c2, .slice a3 R2.clss.length c3], .int .i64 er]) (by simp [results, Tryz.results6, go_sem, e0, e1]) rfl ⟨_, _, rfl, hrb, BX4.frm⟩
  · as_aux_lemma =>
    have HD := hid (fun (w1 : World) (hf : Frm No w w1) => rgrant_any R _ _ da dn w1 (HR.out w1 hf) hI)
    clear HR hI
    generalize grant R da dn = res at *
    obtain ⟨R2, er⟩ := res
    generalize R.mems.length = ml at *
    generalize R.clss.length = cl at *
    go_enter Tryz.func6, Tryz.ntmps6
    go_upto_region 1 with fail
    have X0 := Box.new (Frm.refl No w) [.slice mao ml mcp, .slice cao cl ccp] 27
    have Xd := Box.new X0.frm [.int .i64 x, .string ⟨da.toArray⟩, .string ⟨db.toArray⟩, .int .i64 dn] 34
    have X1 := Box.new Xd.frm [.slice none 0 0, .slice none 0 0] 27
    have Yd := Xd.no ((Frm.refl No _).alloc (.cells #[.slice none 0 0, .slice none 0 0] 27))
    have Y0 := (X0.no ((Frm.refl No _).alloc (.cells #[.int .i64 x, .string ⟨da.toArray⟩, .string ⟨db.toArray⟩, .int .i64 dn] 34))).no ((Frm.refl No _).alloc (.cells #[.slice none 0 0, .slice none 0 0] 27))
    simp only [World.size_alloc] at X1 Yd
    obtain ⟨W, hW⟩ : ∃ W, W = ((w.alloc (.cells #[.slice mao ml mcp, .slice cao cl ccp] 27)).alloc (.cells #[.int .i64 x, .string ⟨da.toArray⟩, .string ⟨db.toArray⟩, .int .i64 dn] 34)).alloc (.cells #[.slice none 0 0, .slice none 0 0] 27) := ⟨_, rfl⟩
    rw [← hW] at X1 Yd Y0 ⊢
    clear hW
    obtain ⟨b, hb⟩ : ∃ b, w.heap.size = b := ⟨_, rfl⟩
    rw [hb] at X1 Y0 Yd
    simp only [hb]
    have HX1 := hid X1
    have HY0 := hid Y0
    have HYd := hid Yd
    have cD := Yd.cell
    clear X0 X1 Xd Y0 Yd
    go_wp2_with (first | (go_at_call 20; refine (HK.out _).mono ?_; rintro e w1 ⟨rfl, hf1⟩; have BX := HX1.out.no hf1; have BY := HY0.out.no hf1; have cY := BY.cell; have BD := HYd.out.no hf1; have cD1 := BD.cell) | (go_at_call 22; refine (HD.out _ BX.frm).mono ?_; rintro e w2 ⟨mv2, cv2, rfl, hr2, hf2⟩; obtain ⟨a2, c2, a3, c3, rfl, rfl⟩ := hr2.shapes; have BX2 := BX.no hf2; have cX2 := BX2.cell; have fX2 := BX2.fr))
    have BX4 := (BX2.set 0 (by simp) (.slice a2 R2.mems.length c2)).set 1 (by simp) (.slice a3 R2.clss.length c3)
    have e0 := BX4.cell 0
    have e1 := BX4.cell 1
    have hrb := hr2.box (E := b + 1 + 1) (fun j s e => noStr2 ⟨_, _, _, rfl⟩ ⟨_, _, _, rfl⟩ j s (by rw [← cX2 j]; exact e)) ((setCell_own _).then_ (setCell_own _) : Frm (One (b + 1 + 1)) w2 ((w2.setCell ⟨b + 1 + 1, 0, none⟩ (.slice a2 R2.mems.length c2)).setCell ⟨b + 1 + 1, 1, none⟩ (.slice a3 R2.clss.length c3)))
    simp only [List.set_cons_zero, List.set_cons_succ, List.getElem?_cons_zero, List.getElem?_cons_succ] at e0 e1
    refine bodyPost_ret (v := .tuple #[.agg #[.slice a2 R2.mems.length c2, .slice a3 R2.clss.length c3], .int .i64 er]) (by simp [results, Tryz.results6, go_sem, e0, e1]) rfl ⟨_, _, rfl, hrb, BX4.frm⟩
  · as_aux_lemma =>
    have HD := hid (fun (w1 : World) (hf : Frm No w w1) => ropen_any R _ _ da db w1 (HR.out w1 hf) hI (by omega))
    clear HR hI
    generalize open_ R da db = res at *
    obtain ⟨R2, er⟩ := res
    generalize R.mems.length = ml at *
    generalize R.clss.length = cl at *
    go_enter Tryz.func6, Tryz.ntmps6
    go_upto_region 1 with fail
    have X0 := Box.new (Frm.refl No w) [.slice mao ml mcp, .slice cao cl ccp] 27
    have Xd := Box.new X0.frm [.int .i64 x, .string ⟨da.toArray⟩, .string ⟨db.toArray⟩, .int .i64 dn] 34
    have X1 := Box.new Xd.frm [.slice none 0 0, .slice none 0 0] 27
    have Yd := Xd.no ((Frm.refl No _).alloc (.cells #[.slice none 0 0, .slice none 0 0] 27))
    have Y0 := (X0.no ((Frm.refl No _).alloc (.cells #[.int .i64 x, .string ⟨da.toArray⟩, .string ⟨db.toArray⟩, .int .i64 dn] 34))).no ((Frm.refl No _).alloc (.cells #[.slice none 0 0, .slice none 0 0] 27))
    simp only [World.size_alloc] at X1 Yd
    obtain ⟨W, hW⟩ : ∃ W, W = ((w.alloc (.cells #[.slice mao ml mcp, .slice cao cl ccp] 27)).alloc (.cells #[.int .i64 x, .string ⟨da.toArray⟩, .string ⟨db.toArray⟩, .int .i64 dn] 34)).alloc (.cells #[.slice none 0 0, .slice none 0 0] 27) := ⟨_, rfl⟩
    rw [← hW] at X1 Yd Y0 ⊢
    clear hW
    obtain ⟨b, hb⟩ : ∃ b, w.heap.size = b := ⟨_, rfl⟩
    rw [hb] at X1 Y0 Yd
    simp only [hb]
    have HX1 := hid X1
    have HY0 := hid Y0
    have HYd := hid Yd
    have cD := Yd.cell
    clear X0 X1 Xd Y0 Yd
    go_wp2_with (first | (go_at_call 20; refine (HK.out _).mono ?_; rintro e w1 ⟨rfl, hf1⟩; have BX := HX1.out.no hf1; have BY := HY0.out.no hf1; have cY := BY.cell; have BD := HYd.out.no hf1; have cD1 := BD.cell) | (go_at_call 19; refine (HD.out _ BX.frm).mono ?_; rintro e w2 ⟨mv2, cv2, rfl, hr2, hf2⟩; obtain ⟨a2, c2, a3, c3, rfl, rfl⟩ := hr2.shapes; have BX2 := BX.no hf2; have cX2 := BX2.cell; have fX2 := BX2.fr))
    have BX4 := (BX2.set 0 (by simp) (.slice a2 R2.mems.length c2)).set 1 (by simp) (.slice a3 R2.clss.length c3)
    have e0 := BX4.cell 0
    have e1 := BX4.cell 1
    have hrb := hr2.box (E := b + 1 + 1) (fun j s e => noStr2 ⟨_, _, _, rfl⟩ ⟨_, _, _, rfl⟩ j s (by rw [← cX2 j]; exact e)) ((setCell_own _).then_ (setCell_own _) : Frm (One (b + 1 + 1)) w2 ((w2.setCell ⟨b + 1 + 1, 0, none⟩ (.slice a2 R2.mems.length c2)).setCell ⟨b + 1 + 1, 1, none⟩ (.slice a3 R2.clss.length c3)))
    simp only [List.set_cons_zero, List.set_cons_succ, List.getElem?_cons_zero, List.getElem?_cons_succ] at e0 e1
    refine bodyPost_ret (v := .tuple #[.agg #[.slice a2 R2.mems.length c2, .slice a3 R2.clss.length c3], .int .i64 er]) (by simp [results, Tryz.results6, go_sem, e0, e1]) rfl ⟨_, _, rfl, hrb, BX4.frm⟩
  · as_aux_lemma =>
    have HD := hid (fun (w1 : World) (hf : Frm No w w1) => rclose_any R _ _ da w1 (HR.out w1 hf) hI)
    clear HR hI
    generalize close R da = res at *
    obtain ⟨R2, er⟩ := res
    generalize R.mems.length = ml at *
    generalize R.clss.length = cl at *
    go_enter Tryz.func6, Tryz.ntmps6
    go_upto_region 1 with fail
    have X0 := Box.new (Frm.refl No w) [.slice mao ml mcp, .slice cao cl ccp] 27
    have Xd := Box.new X0.frm [.int .i64 x, .string ⟨da.toArray⟩, .string ⟨db.toArray⟩, .int .i64 dn] 34
    have X1 := Box.new Xd.frm [.slice none 0 0, .slice none 0 0] 27
    have Yd := Xd.no ((Frm.refl No _).alloc (.cells #[.slice none 0 0, .slice none 0 0] 27))
    have Y0 := (X0.no ((Frm.refl No _).alloc (.cells #[.int .i64 x, .string ⟨da.toArray⟩, .string ⟨db.toArray⟩, .int .i64 dn] 34))).no ((Frm.refl No _).alloc (.cells #[.slice none 0 0, .slice none 0 0] 27))
    simp only [World.size_alloc] at X1 Yd
    obtain ⟨W, hW⟩ : ∃ W, W = ((w.alloc (.cells #[.slice mao ml mcp, .slice cao cl ccp] 27)).alloc (.cells #[.int .i64 x, .string ⟨da.toArray⟩, .string ⟨db.toArray⟩, .int .i64 dn] 34)).alloc (.cells #[.slice none 0 0, .slice none 0 0] 27) := ⟨_, rfl⟩
    rw [← hW] at X1 Yd Y0 ⊢
    clear hW
    obtain ⟨b, hb⟩ : ∃ b, w.heap.size = b := ⟨_, rfl⟩
    rw [hb] at X1 Y0 Yd
    simp only [hb]
    have HX1 := hid X1
    have HY0 := hid Y0
    have HYd := hid Yd
    have cD := Yd.cell
    clear X0 X1 Xd Y0 Yd
    go_wp2_with (first | (go_at_call 20; refine (HK.out _).mono ?_; rintro e w1 ⟨rfl, hf1⟩; have BX := HX1.out.no hf1; have BY := HY0.out.no hf1; have cY := BY.cell; have BD := HYd.out.no hf1; have cD1 := BD.cell) | (go_at_call 23; refine (HD.out _ BX.frm).mono ?_; rintro e w2 ⟨mv2, cv2, rfl, hr2, hf2⟩; obtain ⟨a2, c2, a3, c3, rfl, rfl⟩ := hr2.shapes; have BX2 := BX.no hf2; have cX2 := BX2.cell; have fX2 := BX2.fr))
    have BX4 := (BX2.set 0 (by simp) (.slice a2 R2.mems.length c2)).set 1 (by simp) (.slice a3 R2.clss.length c3)
    have e0 := BX4.cell 0
    have e1 := BX4.cell 1
    have hrb := hr2.box (E := b + 1 + 1) (fun j s e => noStr2 ⟨_, _, _, rfl⟩ ⟨_, _, _, rfl⟩ j s (by rw [← cX2 j]; exact e)) ((setCell_own _).then_ (setCell_own _) : Frm (One (b + 1 + 1)) w2 ((w2.setCell ⟨b + 1 + 1, 0, none⟩ (.slice a2 R2.mems.length c2)).setCell ⟨b + 1 + 1, 1, none⟩ (.slice a3 R2.clss.length c3)))
    simp only [List.set_cons_zero, List.set_cons_succ, List.getElem?_cons_zero, List.getElem?_cons_succ] at e0 e1
    refine bodyPost_ret (v := .tuple #[.agg #[.slice a2 R2.mems.length c2, .slice a3 R2.clss.length c3], .int .i64 er]) (by simp [results, Tryz.results6, go_sem, e0, e1]) rfl ⟨_, _, rfl, hrb, BX4.frm⟩
  · as_aux_lemma =>
    have HD := hid (fun (w1 : World) (hf : Frm No w w1) => rjoin_any R _ _ da db w1 (HR.out w1 hf) hI)
    clear HR hI
    generalize join R da db = res at *
    obtain ⟨R2, er⟩ := res
    generalize R.mems.length = ml at *
    generalize R.clss.length = cl at *
    go_enter Tryz.func6, Tryz.ntmps6
    go_upto_region 1 with fail
    have X0 := Box.new (Frm.refl No w) [.slice mao ml mcp, .slice cao cl ccp] 27
    have Xd := Box.new X0.frm [.int .i64 x, .string ⟨da.toArray⟩, .string ⟨db.toArray⟩, .int .i64 dn] 34
    have X1 := Box.new Xd.frm [.slice none 0 0, .slice none 0 0] 27
    have Yd := Xd.no ((Frm.refl No _).alloc (.cells #[.slice none 0 0, .slice none 0 0] 27))
    have Y0 := (X0.no ((Frm.refl No _).alloc (.cells #[.int .i64 x, .string ⟨da.toArray⟩, .string ⟨db.toArray⟩, .int .i64 dn] 34))).no ((Frm.refl No _).alloc (.cells #[.slice none 0 0, .slice none 0 0] 27))
    simp only [World.size_alloc] at X1 Yd
    obtain ⟨W, hW⟩ : ∃ W, W = ((w.alloc (.cells #[.slice mao ml mcp, .slice cao cl ccp] 27)).alloc (.cells #[.int .i64 x, .string ⟨da.toArray⟩, .string ⟨db.toArray⟩, .int .i64 dn] 34)).alloc (.cells #[.slice none 0 0, .slice none 0 0] 27) := ⟨_, rfl⟩
    rw [← hW] at X1 Yd Y0 ⊢
    clear hW
    obtain ⟨b, hb⟩ : ∃ b, w.heap.size = b := ⟨_, rfl⟩
    rw [hb] at X1 Y0 Yd
    simp only [hb]
    have HX1 := hid X1
    have HY0 := hid Y0
    have HYd := hid Yd
    have cD := Yd.cell
    clear X0 X1 Xd Y0 Yd
    go_wp2_with (first | (go_at_call 20; refine (HK.out _).mono ?_; rintro e w1 ⟨rfl, hf1⟩; have BX := HX1.out.no hf1; have BY := HY0.out.no hf1; have cY := BY.cell; have BD := HYd.out.no hf1; have cD1 := BD.cell) | (go_at_call 24; refine (HD.out _ BX.frm).mono ?_; rintro e w2 ⟨mv2, cv2, rfl, hr2, hf2⟩; obtain ⟨a2, c2, a3, c3, rfl, rfl⟩ := hr2.shapes; have BX2 := BX.no hf2; have cX2 := BX2.cell; have fX2 := BX2.fr))
    have BX4 := (BX2.set 0 (by simp) (.slice a2 R2.mems.length c2)).set 1 (by simp) (.slice a3 R2.clss.length c3)
    have e0 := BX4.cell 0
    have e1 := BX4.cell 1
    have hrb := hr2.box (E := b + 1 + 1) (fun j s e => noStr2 ⟨_, _, _, rfl⟩ ⟨_, _, _, rfl⟩ j s (by rw [← cX2 j]; exact e)) ((setCell_own _).then_ (setCell_own _) : Frm (One (b + 1 + 1)) w2 ((w2.setCell ⟨b + 1 + 1, 0, none⟩ (.slice a2 R2.mems.length c2)).setCell ⟨b + 1 + 1, 1, none⟩ (.slice a3 R2.clss.length c3)))
    simp only [List.set_cons_zero, List.set_cons_succ, List.getElem?_cons_zero, List.getElem?_cons_succ] at e0 e1
    refine bodyPost_ret (v := .tuple #[.agg #[.slice a2 R2.mems.length c2, .slice a3 R2.clss.length c3], .int .i64 er]) (by simp [results, Tryz.results6, go_sem, e0, e1]) rfl ⟨_, _, rfl, hrb, BX4.frm⟩
  · as_aux_lemma =>
    have HD := hid (fun (w1 : World) (hf : Frm No w w1) => rpart_any R _ _ da db w1 (HR.out w1 hf) hI)
    clear HR hI
    generalize Roll.part R da db = res at *
    obtain ⟨R2, er⟩ := res
    generalize R.mems.length = ml at *
    generalize R.clss.length = cl at *
    go_enter Tryz.func6, Tryz.ntmps6
    go_upto_region 1 with fail
    have X0 := Box.new (Frm.refl No w) [.slice mao ml mcp, .slice cao cl ccp] 27
    have Xd := Box.new X0.frm [.int .i64 x, .string ⟨da.toArray⟩, .string ⟨db.toArray⟩, .int .i64 dn] 34
    have X1 := Box.new Xd.frm [.slice none 0 0, .slice none 0 0] 27
    have Yd := Xd.no ((Frm.refl No _).alloc (.cells #[.slice none 0 0, .slice none 0 0] 27))
    have Y0 := (X0.no ((Frm.refl No _).alloc (.cells #[.int .i64 x, .string ⟨da.toArray⟩, .string ⟨db.toArray⟩, .int .i64 dn] 34))).no ((Frm.refl No _).alloc (.cells #[.slice none 0 0, .slice none 0 0] 27))
    simp only [World.size_alloc] at X1 Yd
    obtain ⟨W, hW⟩ : ∃ W, W = ((w.alloc (.cells #[.slice mao ml mcp, .slice cao cl ccp] 27)).alloc (.cells #[.int .i64 x, .string ⟨da.toArray⟩, .string ⟨db.toArray⟩, .int .i64 dn] 34)).alloc (.cells #[.slice none 0 0, .slice none 0 0] 27) := ⟨_, rfl⟩
    rw [← hW] at X1 Yd Y0 ⊢
    clear hW
    obtain ⟨b, hb⟩ : ∃ b, w.heap.size = b := ⟨_, rfl⟩
    rw [hb] at X1 Y0 Yd
    simp only [hb]
    have HX1 := hid X1
    have HY0 := hid Y0
    have HYd := hid Yd
    have cD := Yd.cell
    clear X0 X1 Xd Y0 Yd
    go_wp2_with (first | (go_at_call 20; refine (HK.out _).mono ?_; rintro e w1 ⟨rfl, hf1⟩; have BX := HX1.out.no hf1; have BY := HY0.out.no hf1; have cY := BY.cell; have BD := HYd.out.no hf1; have cD1 := BD.cell) | (go_at_call 25; refine (HD.out _ BX.frm).mono ?_; rintro e w2 ⟨mv2, cv2, rfl, hr2, hf2⟩; obtain ⟨a2, c2, a3, c3, rfl, rfl⟩ := hr2.shapes; have BX2 := BX.no hf2; have cX2 := BX2.cell; have fX2 := BX2.fr))
    have BX4 := (BX2.set 0 (by simp) (.slice a2 R2.mems.length c2)).set 1 (by simp) (.slice a3 R2.clss.length c3)
    have e0 := BX4.cell 0
    have e1 := BX4.cell 1
    have hrb := hr2.box (E := b + 1 + 1) (fun j s e => noStr2 ⟨_, _, _, rfl⟩ ⟨_, _, _, rfl⟩ j s (by rw [← cX2 j]; exact e)) ((setCell_own _).then_ (setCell_own _) : Frm (One (b + 1 + 1)) w2 ((w2.setCell ⟨b + 1 + 1, 0, none⟩ (.slice a2 R2.mems.length c2)).setCell ⟨b + 1 + 1, 1, none⟩ (.slice a3 R2.clss.length c3)))
    simp only [List.set_cons_zero, List.set_cons_succ, List.getElem?_cons_zero, List.getElem?_cons_succ] at e0 e1
    refine bodyPost_ret (v := .tuple #[.agg #[.slice a2 R2.mems.length c2, .slice a3 R2.clss.length c3], .int .i64 er]) (by simp [results, Tryz.results6, go_sem, e0, e1]) rfl ⟨_, _, rfl, hrb, BX4.frm⟩
end Go.Proofs.YtofcmghhmklmiaaGreat
