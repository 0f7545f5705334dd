/- Class: a class by name. Printed by a program (refdeeds.py). -/
import Derived.Test.YtofcmghhmklmiaaGreatRefDJ
namespace Go.Proofs.YtofcmghhmklmiaaGreat
open Go.RowKit
open Roll
/-- What Class answers. -/
def ClsP (o : Option Cls) (w : World) (e : Ending) (w' : World) : Prop := match o with
  | none => e = .returned (.tuple #[.agg #[.string ⟨([] : B).toArray⟩, .string ⟨([] : B).toArray⟩, .slice none 0 0], .bool false]) ∧ Frm No w w'
  | some X => ∃ so sc, e = .returned (.tuple #[.agg #[.string ⟨X.name.toArray⟩, .string ⟨X.teacher.toArray⟩, .slice so X.students.length sc], .bool true]) ∧ Frm No w w'
set_option maxRecDepth 100000 in
set_option maxHeartbeats 8000000 in
theorem rclass_any (R : Rl) (mv cv : Value) (n : B) (w : World) (hr : RlR w mv cv R) (hI : Inv R) :
    Calls Tryz.prog 14 #[.agg #[mv, cv], .string ⟨n.toArray⟩] w (ClsP (find Cls.name R.clss n) w) := by
  have HK := hid (fun w1 (hf : Frm No w w1) => class_any R mv cv n w1 (hr.no hf) hI.cs (by have := hI.cl; omega))
  have HRR := hid (fun w1 (hf : Frm No w w1) => hr.no hf)
  obtain ⟨mao, mcp, cao, ccp, rfl, rfl⟩ := hr.shapes
  have hcl := hI.cl
  obtain ⟨ml, hmle⟩ : ∃ ml, R.mems.length = ml := ⟨_, rfl⟩
  rw [hmle] at HK HRR ⊢
  obtain ⟨cl, hcle⟩ : ∃ cl, R.clss.length = cl := ⟨_, rfl⟩
  rw [hcle] at hcl HK HRR ⊢
  have HCL := hid hcle
  have HI := hid hI
  clear hr hmle hcle hI
  cases h1 : has Cls.name R.clss n with
  | false =>
    as_aux_lemma =>
    rw [find_none.2 h1]
    rw [h1] at HK
    generalize place Cls.name R.clss n = p at *
    clear h1 HRR HCL
    go_enter Tryz.func14, Tryz.ntmps14
    go_upto_region 1 with fail
    have X0 := Box.new (Frm.refl No w) [.slice mao ml mcp, .slice cao cl ccp] 27
    have X1 := Box.new X0.frm [.string ⟨#[]⟩, .string ⟨#[]⟩, .slice none 0 0] 53
    have Y0 := X0.no ((Frm.refl No _).alloc (.cells #[.string ⟨#[]⟩, .string ⟨#[]⟩, .slice none 0 0] 53))
    simp only [World.size_alloc] at X1
    obtain ⟨W, hW⟩ : ∃ W, W = (w.alloc (.cells #[.slice mao ml mcp, .slice cao cl ccp] 27)).alloc (.cells #[.string ⟨#[]⟩, .string ⟨#[]⟩, .slice none 0 0] 53) := ⟨_, rfl⟩
    rw [← hW] at X1 Y0 ⊢
    clear hW
    obtain ⟨b, hb⟩ : ∃ b, w.heap.size = b := ⟨_, rfl⟩
    rw [hb] at X1 Y0
    simp only [hb]
    have F1 := X1.frm
    have HX1 := hid X1
    have HY0 := hid Y0
    have cW := Y0.cell
    clear X0 X1 Y0
    go_wp2_with (go_at_call 49; refine (HK.out _ F1).mono ?_; rintro e w1 ⟨rfl, hf1⟩; have BX := HX1.out.no hf1; have cX := BX.cell; have fX := BX.fr; have BY := HY0.out.no hf1; have cY := BY.cell)
    have BX2 := ((BX.set 0 (by simp) (.string ⟨#[]⟩)).set 1 (by simp) (.string ⟨#[]⟩)).set 2 (by simp) (.slice none 0 0)
    have e0 := BX2.cell 0
    have e1 := BX2.cell 1
    have e2 := BX2.cell 2
    simp only [List.set_cons_zero, List.set_cons_succ, List.getElem?_cons_zero, List.getElem?_cons_succ] at e0 e1 e2
    refine bodyPost_ret (v := .tuple #[.agg #[.string ⟨#[]⟩, .string ⟨#[]⟩, .slice none 0 0], .bool false]) (by simp [results, Tryz.results14, go_sem, e0, e1, e2]) rfl ⟨rfl, BX2.frm⟩
  | true =>
    as_aux_lemma =>
    obtain ⟨hpl, hfd⟩ := find_at HI.out.cs h1
    rw [h1] at HK
    rw [hfd]
    clear h1 hfd
    have hsl : (R.clss[place Cls.name R.clss n]'hpl).students.length ≤ 256 := HI.out.students (List.getElem_mem _)
    obtain ⟨g0, o0, c0, xo0, xc0, hcv, k0, k1, k2, kr, kg⟩ := (HRR.out w (Frm.refl No w)).cls (p := place Cls.name R.clss n) hpl
    rw [HCL.out] at hcv
    simp only [Value.slice.injEq, true_and] at hcv
    obtain ⟨rfl, rfl⟩ := hcv
    obtain ⟨X, hX⟩ : ∃ X, R.clss[place Cls.name R.clss n]'hpl = X := ⟨_, rfl⟩
    simp only [hX] at k0 k1 k2 kr hsl ⊢
    clear hX
    rw [HCL.out] at hpl
    generalize place Cls.name R.clss n = p at *
    have hpz : (p : Int) < (cl : Int) := by omega
    obtain ⟨xn, xt, xs⟩ := X
    dsimp only at k0 k1 k2 kr hsl ⊢
    have HKK := hid (fun w1 (hf : Frm No w w1) => And.intro ((hf.cell (p := ⟨g0, o0 + p * 3, none⟩) kg (fun h => h)).trans k0) (And.intro ((hf.cell (p := ⟨g0, o0 + p * 3 + 1, none⟩) kg (fun h => h)).trans k1) ((hf.cell (p := ⟨g0, o0 + p * 3 + 2, none⟩) kg (fun h => h)).trans k2)))
    have HCN := hid (fun w1 (hf : Frm No w w1) => clone_str xs _ w1 (kr.frm (fun _ _ => rfl) hf (fun _ _ h => h)) (by omega))
    obtain ⟨xl, hxl⟩ : ∃ xl, xs.length = xl := ⟨_, rfl⟩
    rw [hxl] at HKK HCN hsl
    have HXL := hid hxl
    clear k0 k1 k2 kr HRR HCL hxl
    go_enter Tryz.func14, Tryz.ntmps14
    go_upto_region 1 with fail
    have X0 := Box.new (Frm.refl No w) [.slice mao ml mcp, .slice (some ⟨g0, o0, none⟩) cl ccp] 27
    have X1 := Box.new X0.frm [.string ⟨#[]⟩, .string ⟨#[]⟩, .slice none 0 0] 53
    have Y0 := X0.no ((Frm.refl No _).alloc (.cells #[.string ⟨#[]⟩, .string ⟨#[]⟩, .slice none 0 0] 53))
    simp only [World.size_alloc] at X1
    obtain ⟨W, hW⟩ : ∃ W, W = (w.alloc (.cells #[.slice mao ml mcp, .slice (some ⟨g0, o0, none⟩) cl ccp] 27)).alloc (.cells #[.string ⟨#[]⟩, .string ⟨#[]⟩, .slice none 0 0] 53) := ⟨_, rfl⟩
    rw [← hW] at X1 Y0 ⊢
    clear hW
    obtain ⟨b, hb⟩ : ∃ b, w.heap.size = b := ⟨_, rfl⟩
    rw [hb] at X1 Y0
    simp only [hb]
    have F1 := X1.frm
    have HX1 := hid X1
    have HY0 := hid Y0
    have cW := Y0.cell
    clear X0 X1 Y0
    go_upto_region 5 with (go_at_call 49; refine (HK.out _ F1).mono ?_; rintro e w1 ⟨rfl, hf1⟩; have BX := HX1.out.no hf1; have BY := HY0.out.no hf1; have cY := BY.cell; obtain ⟨kk0, kk1, kk2⟩ := HKK.out _ BY.frm)
    have B2 := Box.new BX.frm [.string ⟨xn.toArray⟩, .string ⟨xt.toArray⟩, .slice xo0 xl xc0] 53
    have BX2 := BX.no ((Frm.refl No w1).alloc (.cells #[.string ⟨xn.toArray⟩, .string ⟨xt.toArray⟩, .slice xo0 xl xc0] 53))
    have hAF : b + 1 ≠ w1.heap.size := by have := BX.lC; omega
    obtain ⟨W2, hW2⟩ : ∃ W2, W2 = w1.alloc (.cells #[.string ⟨xn.toArray⟩, .string ⟨xt.toArray⟩, .slice xo0 xl xc0] 53) := ⟨_, rfl⟩
    have hW3 : W2 = w1.alloc (.cells ([.string ⟨xn.toArray⟩, .string ⟨xt.toArray⟩, .slice xo0 xl xc0] : List Value).toArray 53) := hW2
    rw [← hW2] at BX2 ⊢
    rw [← hW3] at B2
    obtain ⟨F, hF⟩ : ∃ F, w1.heap.size = F := ⟨_, rfl⟩
    rw [hF] at B2 hAF
    simp only [hF]
    have c2 := B2.cell
    clear hW2 hW3 BX BY cY kk0 kk1 kk2 cW hf1
    go_wp2_with (go_at_call 50; refine (HCN.out _ B2.frm).mono ?_; rintro e w4 ⟨v4, rfl, hown4, hf4⟩; obtain ⟨lo4, lc4, rfl⟩ := ownsRow_shape hown4; have B4 := B2.no hf4; have d2 := B4.cell; have d2f := B4.fr; have A4 := BX2.no hf4; have d3 := A4.cell; have d3f := A4.fr)
    have A5 := A4.setOther B4.hC hAF 2 (.slice lo4 xl lc4)
    have BE := ((A5.set 0 (by simp) (.string ⟨xn.toArray⟩)).set 1 (by simp) (.string ⟨xt.toArray⟩)).set 2 (by simp) (.slice lo4 xl lc4)
    have e0 := BE.cell 0
    have e1 := BE.cell 1
    have e2 := BE.cell 2
    simp only [List.set_cons_zero, List.set_cons_succ, List.getElem?_cons_zero, List.getElem?_cons_succ] at e0 e1 e2
    refine bodyPost_ret (v := .tuple #[.agg #[.string ⟨xn.toArray⟩, .string ⟨xt.toArray⟩, .slice lo4 xl lc4], .bool true]) (by simp [results, Tryz.results14, go_sem, e0, e1, e2]) rfl ⟨lo4, lc4, by rw [← HXL.out], BE.frm⟩
end Go.Proofs.YtofcmghhmklmiaaGreat
