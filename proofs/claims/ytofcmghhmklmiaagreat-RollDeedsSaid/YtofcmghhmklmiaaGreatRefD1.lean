/- The reference's Leave, Grant, Enrol. Printed by a program (refdeeds.py). -/
import Derived.Test.YtofcmghhmklmiaaGreatRefCp
import Derived.Test.YtofcmghhmklmiaaGreatRefDA
import Derived.Test.YtofcmghhmklmiaaGreatRefRo1
namespace Go.Proofs.YtofcmghhmklmiaaGreat
open Go.RowKit
open Roll
theorem frm_own {W wr w' : World} {v : Value} (h : Frm No W wr) (hf : Frm (Own v) wr w') (hv : ∀ k, v.ownBlock = some k → W.heap.size ≤ k) : Frm No W w' :=
  h.trans hf (fun _ _ h => h) (fun i hi hs => by have := hv i hs; omega)
/-- A deed's end: the result is stored. -/
theorem end_A {w wc : World} {A : Nat} {x y mv cv : Value} {R : Rl} (hA : Box w wc A [x, y]) (hx : ∃ a n c, x = .slice a n c) (hy : ∃ a n c, y = .slice a n c) (hr : RlR wc mv cv R) :
    Box w ((wc.setCell ⟨A, 0, none⟩ mv).setCell ⟨A, 1, none⟩ cv) A [mv, cv] ∧ RlR ((wc.setCell ⟨A, 0, none⟩ mv).setCell ⟨A, 1, none⟩ cv) mv cv R := by
  have hB := (hA.set 0 (by simp) mv).set 1 (by simp) cv
  have hF : Frm (One A) wc ((wc.setCell ⟨A, 0, none⟩ mv).setCell ⟨A, 1, none⟩ cv) := (setCell_own _).then_ (setCell_own _)
  exact ⟨hB, (RB.mk hA (noStr2 hx hy)).rl hr hF⟩
/-- One of the copy's lists is replaced, then the result is stored. -/
theorem end_C {w wc : World} {A C j : Nat} {x y mv cv mv' cv' l : Value} {R : Rl} (hA : Box w wc A [x, y]) (hC : Box w wc C [mv, cv]) (hne : A ≠ C) (hx : ∃ a n c, x = .slice a n c) (hy : ∃ a n c, y = .slice a n c) (hmv : ∃ a n c, mv = .slice a n c) (hcv : ∃ a n c, cv = .slice a n c) (hr : RlR wc mv' cv' R) :
    Box w (((wc.setCell ⟨C, j, none⟩ l).setCell ⟨A, 0, none⟩ mv').setCell ⟨A, 1, none⟩ cv') A [mv', cv'] ∧ RlR (((wc.setCell ⟨C, j, none⟩ l).setCell ⟨A, 0, none⟩ mv').setCell ⟨A, 1, none⟩ cv') mv' cv' R :=
  end_A (hA.setOther hC.hC hne j l) hx hy ((RB.mk hC (noStr2 hmv hcv)).rl hr (setCell_own l))
theorem nil3 : ∃ a n c, Value.slice none 0 0 = .slice a n c := ⟨_, _, _, rfl⟩
theorem CopyP.all {w w' : World} {R : Rl} {e : Ending} (h : CopyP w R [] e w') : ∃ ma ml mc ca cl cc cs', e = .returned (.agg #[.slice ma ml mc, .slice ca cl cc]) ∧ RqO w.heap.size w' (.slice ma ml mc) (.slice ca cl cc) R cs' ∧ Frm No w w' ∧ ml = R.mems.length ∧ cl = cs'.length ∧ cl = R.clss.length := by
  obtain ⟨mv, cv, cs', rfl, ho, hf⟩ := h
  rw [cpy_nil] at ho
  obtain ⟨ma, mc, rfl⟩ := ownsRow_shape ho.mo
  obtain ⟨ca, cc, rfl⟩ := ownsRow_shape ho.co
  exact ⟨_, _, _, _, _, _, cs', rfl, ho, hf, rfl, rfl, by rw [← ho.fst, List.length_map]⟩
set_option maxRecDepth 100000 in
set_option maxHeartbeats 8000000 in
theorem releave_any (R : Rl) (mv cv : Value) (n : B) (w : World) (hr : RlR w mv cv R) (hI : Inv R) :
    Calls Tryz.prog 27 #[.agg #[mv, cv], .string ⟨n.toArray⟩] w (DeedP w (leave R n)) := by
  have hml := hI.ml
  have hcl := hI.cl
  have HM := hid (fun w1 (hf : Frm No w w1) => rfind_any R mv cv n w1 (hr.no hf) (by have := hI.ml; omega))
  have HC := hid (fun w1 (hf : Frm No w w1) => rcopy_any R mv cv n w1 (hr.no hf) hI)
  obtain ⟨mao, mcp, rfl⟩ := hr.mr.shape
  obtain ⟨cs, hfs, hc, -⟩ := hr.cr
  have hcsl : cs.length = R.clss.length := by rw [← hfs]; simp
  have HCR := hid (fun w1 (hf : Frm No w w1) => hc.frm (fun _ _ => rfl) hf (fun _ _ h => h))
  have HFS := hid hfs
  obtain ⟨cao, ccp, rfl⟩ := hc.shape
  obtain ⟨ml, hmle⟩ : ∃ ml, R.mems.length = ml := ⟨_, rfl⟩
  obtain ⟨cl, hcle⟩ : ∃ cl, cs.length = cl := ⟨_, rfl⟩
  have HML := hid hmle
  have HCL := hid hcle
  have HCR2 : Hid (R.clss.length = cl) := hid (by omega)
  have HDL : Hid (∀ x y : B, (x == y) = decide (x = y)) := hid (fun x y => by rw [Bool.eq_iff_iff]; simp)
  have HI := hid hI
  rw [← hcsl, hcle] at hcl
  rw [hmle] at hml ⊢
  rw [hcle] at ⊢
  simp only [hmle, hcle] at HM HC
  clear hr hc hfs hcsl hmle hcle hI
  cases h1 : has Mem.name R.mems n with
  | false =>
    as_aux_lemma =>
    have he : leave R n = (Roll.nil, 10) := by unfold leave; rw [if_pos h1]
    rw [find_none.2 h1] at HM
    rw [he]
    clear he h1 HC HI HML HCR HFS HCL HCR2
    go_enter Tryz.func27, Tryz.ntmps27
    go_upto_region 1 with fail
    have X0 := Box.new (Frm.refl No w) [.slice mao ml mcp, .slice cao cl ccp] 31
    have X1 := Box.new X0.frm [.slice none 0 0, .slice none 0 0] 31
    have Y0 := X0.no ((Frm.refl No _).alloc (.cells #[.slice none 0 0, .slice none 0 0] 31))
    simp only [World.size_alloc] at X1
    obtain ⟨W, hW⟩ : ∃ W, W = (w.alloc (.cells #[.slice mao ml mcp, .slice cao cl ccp] 31)).alloc (.cells #[.slice none 0 0, .slice none 0 0] 31) := ⟨_, rfl⟩
    rw [← hW] at X1 Y0 ⊢
    clear hW
    obtain ⟨b, hb⟩ : ∃ b, w.heap.size = b := ⟨_, rfl⟩
    rw [hb] at X1 Y0
    simp only [hb]
    have F1 := X1.frm
    have HX1 := hid X1
    have HY0 := hid Y0
    have cW := Y0.cell
    clear X0 X1 Y0
    go_wp2_with (go_at_call 13; refine (HM.out _ F1).mono ?_; rintro e w1 ⟨rfl, hfw1⟩; have BX := (HX1.out.no hfw1).no ((Frm.refl No w1).alloc (.cells #[.string ⟨([] : B).toArray⟩, .int .i64 0, .int .i64 0] 48)); have BY := (HY0.out.no hfw1).no ((Frm.refl No w1).alloc (.cells #[.string ⟨([] : B).toArray⟩, .int .i64 0, .int .i64 0] 48)); have cXw1 := BX.cell; have fXw1 := BX.fr; have cYw1 := BY.cell)
    have BX4 := (BX.set 0 (by simp) (.slice none 0 0)).set 1 (by simp) (.slice none 0 0)
    have e0 := BX4.cell 0
    have e1 := BX4.cell 1
    simp only [List.set_cons_zero, List.set_cons_succ, List.getElem?_cons_zero, List.getElem?_cons_succ] at e0 e1
    refine bodyPost_ret (v := .tuple #[.agg #[.slice none 0 0, .slice none 0 0], .int .i64 10]) (by simp [results, Tryz.results27, go_sem, e0, e1]) rfl ⟨_, _, rfl, nil_rd _, BX4.frm⟩
  | true =>
    as_aux_lemma =>
    obtain ⟨hpl, hfd⟩ := find_at HI.out.ms h1
    rw [hfd] at HM
    have hne : n ≠ [] := by
      obtain ⟨m, hm, he⟩ := has_iff.1 h1
      rw [← he]
      exact gn_ne (HI.out.mg m hm).1
    have HH1 := hid h1
    have HNE := hid hne
    generalize R.mems[place Mem.name R.mems n] = m at *
    obtain ⟨nm, ro, qu⟩ := m
    clear hfd h1 hpl hne
    go_enter Tryz.func27, Tryz.ntmps27
    go_upto_region 1 with fail
    have X0 := Box.new (Frm.refl No w) [.slice mao ml mcp, .slice cao cl ccp] 31
    have X1 := Box.new X0.frm [.slice none 0 0, .slice none 0 0] 31
    have Y0 := X0.no ((Frm.refl No _).alloc (.cells #[.slice none 0 0, .slice none 0 0] 31))
    simp only [World.size_alloc] at X1
    obtain ⟨W, hW⟩ : ∃ W, W = (w.alloc (.cells #[.slice mao ml mcp, .slice cao cl ccp] 31)).alloc (.cells #[.slice none 0 0, .slice none 0 0] 31) := ⟨_, rfl⟩
    rw [← hW] at X1 Y0 ⊢
    clear hW
    obtain ⟨b, hb⟩ : ∃ b, w.heap.size = b := ⟨_, rfl⟩
    rw [hb] at X1 Y0
    simp only [hb]
    have F1 := X1.frm
    have HX1 := hid X1
    have HY0 := hid Y0
    have cW := Y0.cell
    clear X0 X1 Y0
    go_upto_region 4 with (go_at_call 13; refine (HM.out _ F1).mono ?_; rintro e w1 ⟨rfl, hfw1⟩; have BX := (HX1.out.no hfw1).no ((Frm.refl No w1).alloc (.cells #[.string ⟨nm.toArray⟩, .int .i64 ro, .int .i64 qu] 48)); have BY := (HY0.out.no hfw1).no ((Frm.refl No w1).alloc (.cells #[.string ⟨nm.toArray⟩, .int .i64 ro, .int .i64 qu] 48)); have cXw1 := BX.cell; have fXw1 := BX.fr; have cYw1 := BY.cell)
    obtain ⟨W2, hW2⟩ : ∃ W2, W2 = w1.alloc (.cells #[.string ⟨nm.toArray⟩, .int .i64 ro, .int .i64 qu] 48) := ⟨_, rfl⟩
    rw [← hW2] at BX BY ⊢
    have HBX := hid BX
    have HBY := hid BY
    clear hW2 BX BY cXw1 fXw1 cYw1 HX1 HY0 hfw1 F1 cW
    go_wp2_with fail
    go_loopw [8] (fun iv wr => ∃ k : Nat, k ≤ cl ∧ iv = .int .i64 (k : Int) ∧ has (fun x : CV => x.1.teacher) (cs.take k) n = false ∧ Frm No W2 wr)
      (fun iv _ => cl - (intOf iv).toNat)
    case atStart => exact ⟨0, by omega, rfl, rfl, Frm.refl _ _⟩
    case round =>
      obtain ⟨k, hk, rfl, hh, hf⟩ := hrel
      have hY := HBY.out.no hf
      have hX := HBX.out.no hf
      have c0 := hY.cell 0
      have c1 := hY.cell 1
      have d0 := hX.cell
      have d1 := hX.fr
      have hf0 := hY.frm
      simp only [List.getElem?_cons_zero, List.getElem?_cons_succ] at c0 c1
      have HF := hid hf
      have HF0 := hid hf0
      have HX := hid hX
      have HH := hid hh
      clear hY hf hh hX
      by_cases hkl : k < cl
      · have hkz : (k : Int) < (cl : Int) := by omega
        have hk2 : k < cs.length := by rw [HCL.out]; exact hkl
        have hcr : RdL wr (.slice cao cs.length ccp) 3 clsV cs := HCR.out wr hf0
        obtain ⟨g, o, rfl, hcc⟩ := hcr.at_ (by omega)
        have q0 := hcc k hk2 1 (by omega)
        have HNX := hid (fun (he : ¬ (fun x : CV => x.1.teacher) cs[k] = n) => has_take (key := fun x : CV => x.1.teacher) hk2 HH.out he)
        have HYS := hid (fun (he : (fun x : CV => x.1.teacher) cs[k] = n) => has_of (key := fun x : CV => x.1.teacher) hk2 he)
        obtain ⟨x, hx⟩ : ∃ x, cs[k] = x := ⟨_, rfl⟩
        simp only [hx] at q0 HNX HYS
        obtain ⟨⟨xn, xt, xs⟩, xo, xc⟩ := x
        simp only [clsV, List.getElem?_cons_zero, List.getElem?_cons_succ, ← Nat.add_assoc] at q0
        dsimp only at HNX HYS
        clear hcr hcc hx hf0
        by_cases he : xt = n
        · as_aux_lemma =>
          have heb : (xt == n) = true := by rw [HDL.out]; exact decide_eq_true he
          have hle : leave R n = (Roll.nil, 16) := by
            have h2 : has Cls.teacher R.clss n = true := by rw [← HFS.out]; unfold has; rw [List.any_map]; exact HYS.out he
            unfold leave
            rw [if_neg (by rw [HH1.out]; decide), if_pos h2]
          rw [hle]
          clear he HNX HYS HDL HC hle
          go_wp2_with fail
          have BX4 := (HX.out.set 0 (by simp) (.slice none 0 0)).set 1 (by simp) (.slice none 0 0)
          have e0 := BX4.cell 0
          have e1 := BX4.cell 1
          simp only [List.set_cons_zero, List.set_cons_succ, List.getElem?_cons_zero, List.getElem?_cons_succ] at e0 e1
          refine bodyPost_ret (v := .tuple #[.agg #[.slice none 0 0, .slice none 0 0], .int .i64 16]) (by simp [results, Tryz.results27, go_sem, e0, e1]) rfl ⟨_, _, rfl, nil_rd _, BX4.frm⟩
        · as_aux_lemma =>
          have heb : (xt == n) = false := by rw [HDL.out]; exact decide_eq_false he
          have HN2 := hid (HNX.out he)
          clear he HNX HYS HDL HC d0 d1
          go_wp2_with fail
          exact ⟨⟨k + 1, by omega, by go_num, HN2.out, HF.out⟩, by simp only [intOf]; omega⟩
      · as_aux_lemma =>
        obtain rfl : k = cl := by omega
        have hkz : ¬ (k : Int) < (k : Int) := by omega
        have hno : has Cls.teacher R.clss n = false := by
          have := HH.out
          rw [← HCL.out, List.take_length] at this
          rw [← HFS.out]
          unfold has at this ⊢
          rw [List.any_map]
          exact this
        have HLE := hid (cpy_leave HI.out HNE.out HH1.out hno)
        clear HH hf0 hno
        go_wp2_with (go_at_call 67; refine (HC.out _ HF0.out).mono ?_; rintro e wc ⟨mv', cv', cs', rfl, ho, hfc⟩; have hr' := ho.rd; obtain ⟨ma', ml', mc', ca', cl', cc', rfl, rfl⟩ := hr'.any; have BA := HX.out.no hfc; have d2 := BA.cell; have d3 := BA.fr)
        obtain ⟨BE, hre⟩ := end_A BA nil3 nil3 hr'
        have e0 := BE.cell 0
        have e1 := BE.cell 1
        simp only [List.getElem?_cons_zero, List.getElem?_cons_succ] at e0 e1
        refine bodyPost_ret (v := .tuple #[.agg #[.slice ma' ml' mc', .slice ca' cl' cc'], .int .i64 0]) (by simp [results, Tryz.results27, go_sem, e0, e1]) rfl ⟨_, _, by rw [HLE.out], by rw [HLE.out]; exact hre, BE.frm⟩
theorem CopyP.all' {w w' : World} {R : Rl} {e : Ending} (h : CopyP w R [] e w') {ml cl : Nat} (hml : R.mems.length = ml) (hcl : R.clss.length = cl) : ∃ ma mc ca cc cs', e = .returned (.agg #[.slice ma ml mc, .slice ca cl cc]) ∧ RqO w.heap.size w' (.slice ma ml mc) (.slice ca cl cc) R cs' ∧ Frm No w w' ∧ cs'.length = cl := by
  obtain ⟨ma, ml', mc, ca, cl', cc, cs', h1, h2, h3, rfl, rfl, h4⟩ := h.all
  rw [hml] at h1 h2
  rw [h4, hcl] at h1 h2
  exact ⟨ma, mc, ca, cc, cs', h1, h2, h3, h4.trans hcl⟩
/-- A roll of the call's own in the block C, behind Copy; the result's block A. -/
structure OutI (w wr : World) (A C base : Nat) (mv cv : Value) (R : Rl) (cs : List CV) : Prop where
  own : RqO base wr mv cv R cs
  res : Box w wr A [.slice none 0 0, .slice none 0 0]
  box : Box w wr C [mv, cv]
  AC : A ≠ C
  lo : w.heap.size ≤ base
  off : ∀ k, RlB mv cv cs k → k ≠ A ∧ k ≠ C
theorem OutI.no {w wr w2 : World} {A C base : Nat} {mv cv : Value} {R : Rl} {cs : List CV} (h : OutI w wr A C base mv cv R cs) (hf : Frm No wr w2) : OutI w w2 A C base mv cv R cs :=
  ⟨h.own.no hf, h.res.no hf, h.box.no hf, h.AC, h.lo, h.off⟩
theorem OutI.make {w wc : World} {A base : Nat} {mv cv : Value} {R : Rl} {cs : List CV} (T : TypeId) (hA : Box w wc A [.slice none 0 0, .slice none 0 0]) (ho : RqO base wc mv cv R cs) (hb : A < base) (hw : w.heap.size ≤ base) : OutI w (wc.alloc (.cells #[mv, cv] T)) A wc.heap.size base mv cv R cs := by
  have hl := hA.lC
  have hf : Frm No wc (wc.alloc (.cells #[mv, cv] T)) := (Frm.refl No wc).alloc _
  refine ⟨ho.no hf, hA.no hf, Box.new hA.frm [mv, cv] T, by omega, hw, fun k hk => ?_⟩
  have := ho.b_lt hk
  omega
theorem OutI.putM {w wr w2 : World} {A C base : Nat} {mv cv : Value} {R : Rl} {cs : List CV} (h : OutI w wr A C base mv cv R cs) (l : List Mem) (hf : Frm (Own mv) wr w2) (ho : w2.ownsRow base 48 3 mv l.length (rows memV l)) : OutI w w2 A C base mv cv ⟨l, R.clss⟩ cs := by
  have hl := h.lo
  have hg : ∀ k, Own mv k → w.heap.size ≤ k := fun k hk => by have := (h.own.b_lt (.inl hk)).1; omega
  exact ⟨h.own.setM hf l ho (.inl rfl), h.res.other hf (fun e => (h.off A (.inl e)).1 rfl) hg, h.box.other hf (fun e => (h.off C (.inl e)).2 rfl) hg, h.AC, h.lo, h.off⟩
set_option maxRecDepth 100000 in
set_option maxHeartbeats 8000000 in
theorem regrant_any (R : Rl) (mv cv : Value) (n : B) (q : Int) (w : World) (hr : RlR w mv cv R) (hI : Inv R) :
    Calls Tryz.prog 28 #[.agg #[mv, cv], .string ⟨n.toArray⟩, .int .i64 q] w (DeedP w (grant R n q)) := by
  have hml := hI.ml
  have hcl := hI.cl
  have HM := hid (fun w1 (hf : Frm No w w1) => rfind_any R mv cv n w1 (hr.no hf) (by have := hI.ml; omega))
  have HC := hid (fun w1 (hf : Frm No w w1) => rcopy_any R mv cv [] w1 (hr.no hf) hI)
  obtain ⟨mao, mcp, rfl⟩ := hr.mr.shape
  obtain ⟨cs, hfs, hc, -⟩ := hr.cr
  have hcsl : cs.length = R.clss.length := by rw [← hfs]; simp
  have HCR := hid (fun w1 (hf : Frm No w w1) => hc.frm (fun _ _ => rfl) hf (fun _ _ h => h))
  have HFS := hid hfs
  obtain ⟨cao, ccp, rfl⟩ := hc.shape
  obtain ⟨ml, hmle⟩ : ∃ ml, R.mems.length = ml := ⟨_, rfl⟩
  obtain ⟨cl, hcle⟩ : ∃ cl, cs.length = cl := ⟨_, rfl⟩
  have HML := hid hmle
  have HCL := hid hcle
  have HCR2 : Hid (R.clss.length = cl) := hid (by omega)
  have HDL : Hid (∀ x y : B, (x == y) = decide (x = y)) := hid (fun x y => by rw [Bool.eq_iff_iff]; simp)
  have HI := hid hI
  rw [← hcsl, hcle] at hcl
  rw [hmle] at hml ⊢
  rw [hcle] at ⊢
  simp only [hmle, hcle] at HM HC
  clear hr hc hfs hcsl hmle hcle hI
  cases h1 : has Mem.name R.mems n with
  | false =>
    as_aux_lemma =>
    have he : grant R n q = (Roll.nil, 10) := by unfold grant; rw [if_pos h1]
    rw [find_none.2 h1] at HM
    rw [he]
    clear he h1 HC HI HML HCR HFS HCL HCR2
    go_enter Tryz.func28, Tryz.ntmps28
    go_upto_region 1 with fail
    have X0 := Box.new (Frm.refl No w) [.slice mao ml mcp, .slice cao cl ccp] 31
    have X1 := Box.new X0.frm [.slice none 0 0, .slice none 0 0] 31
    have Y0 := X0.no ((Frm.refl No _).alloc (.cells #[.slice none 0 0, .slice none 0 0] 31))
    simp only [World.size_alloc] at X1
    obtain ⟨W, hW⟩ : ∃ W, W = (w.alloc (.cells #[.slice mao ml mcp, .slice cao cl ccp] 31)).alloc (.cells #[.slice none 0 0, .slice none 0 0] 31) := ⟨_, rfl⟩
    rw [← hW] at X1 Y0 ⊢
    clear hW
    obtain ⟨b, hb⟩ : ∃ b, w.heap.size = b := ⟨_, rfl⟩
    rw [hb] at X1 Y0
    simp only [hb]
    have F1 := X1.frm
    have HX1 := hid X1
    have HY0 := hid Y0
    have cW := Y0.cell
    clear X0 X1 Y0
    go_wp2_with (go_at_call 13; refine (HM.out _ F1).mono ?_; rintro e w1 ⟨rfl, hfw1⟩; have BX := (HX1.out.no hfw1).no ((Frm.refl No w1).alloc (.cells #[.string ⟨([] : B).toArray⟩, .int .i64 0, .int .i64 0] 48)); have BY := (HY0.out.no hfw1).no ((Frm.refl No w1).alloc (.cells #[.string ⟨([] : B).toArray⟩, .int .i64 0, .int .i64 0] 48)); have cXw1 := BX.cell; have fXw1 := BX.fr; have cYw1 := BY.cell)
    have BX4 := (BX.set 0 (by simp) (.slice none 0 0)).set 1 (by simp) (.slice none 0 0)
    have e0 := BX4.cell 0
    have e1 := BX4.cell 1
    simp only [List.set_cons_zero, List.set_cons_succ, List.getElem?_cons_zero, List.getElem?_cons_succ] at e0 e1
    refine bodyPost_ret (v := .tuple #[.agg #[.slice none 0 0, .slice none 0 0], .int .i64 10]) (by simp [results, Tryz.results28, go_sem, e0, e1]) rfl ⟨_, _, rfl, nil_rd _, BX4.frm⟩
  | true =>
    as_aux_lemma =>
    obtain ⟨hpl, hfd⟩ := find_at HI.out.ms h1
    rw [hfd] at HM
    have HH1 := hid h1
    generalize R.mems[place Mem.name R.mems n] = m at *
    obtain ⟨nm, ro, qu⟩ := m
    clear hfd h1 hpl
    by_cases h3 : q < 0 ∨ 65536 < q
    · as_aux_lemma =>
      have he : grant R n q = (Roll.nil, 1) := by unfold grant; rw [if_neg (by rw [HH1.out]; decide), if_pos h3]
      rw [he]
      clear he HC HI HML HCR HFS HCL HCR2
      rcases (show q < 0 ∨ (¬ q < 0 ∧ 65536 < q) by omega) with h3a | ⟨h3a, h3b⟩
      · clear h3
        go_enter Tryz.func28, Tryz.ntmps28
        go_upto_region 1 with fail
        have X0 := Box.new (Frm.refl No w) [.slice mao ml mcp, .slice cao cl ccp] 31
        have X1 := Box.new X0.frm [.slice none 0 0, .slice none 0 0] 31
        have Y0 := X0.no ((Frm.refl No _).alloc (.cells #[.slice none 0 0, .slice none 0 0] 31))
        simp only [World.size_alloc] at X1
        obtain ⟨W, hW⟩ : ∃ W, W = (w.alloc (.cells #[.slice mao ml mcp, .slice cao cl ccp] 31)).alloc (.cells #[.slice none 0 0, .slice none 0 0] 31) := ⟨_, rfl⟩
        rw [← hW] at X1 Y0 ⊢
        clear hW
        obtain ⟨b, hb⟩ : ∃ b, w.heap.size = b := ⟨_, rfl⟩
        rw [hb] at X1 Y0
        simp only [hb]
        have F1 := X1.frm
        have HX1 := hid X1
        have HY0 := hid Y0
        have cW := Y0.cell
        clear X0 X1 Y0
        go_wp2_with (go_at_call 13; refine (HM.out _ F1).mono ?_; rintro e w1 ⟨rfl, hfw1⟩; have BX := (HX1.out.no hfw1).no ((Frm.refl No w1).alloc (.cells #[.string ⟨nm.toArray⟩, .int .i64 ro, .int .i64 qu] 48)); have BY := (HY0.out.no hfw1).no ((Frm.refl No w1).alloc (.cells #[.string ⟨nm.toArray⟩, .int .i64 ro, .int .i64 qu] 48)); have cXw1 := BX.cell; have fXw1 := BX.fr; have cYw1 := BY.cell)
        have BX4 := (BX.set 0 (by simp) (.slice none 0 0)).set 1 (by simp) (.slice none 0 0)
        have e0 := BX4.cell 0
        have e1 := BX4.cell 1
        simp only [List.set_cons_zero, List.set_cons_succ, List.getElem?_cons_zero, List.getElem?_cons_succ] at e0 e1
        refine bodyPost_ret (v := .tuple #[.agg #[.slice none 0 0, .slice none 0 0], .int .i64 1]) (by simp [results, Tryz.results28, go_sem, e0, e1]) rfl ⟨_, _, rfl, nil_rd _, BX4.frm⟩
      · clear h3
        go_enter Tryz.func28, Tryz.ntmps28
        go_upto_region 1 with fail
        have X0 := Box.new (Frm.refl No w) [.slice mao ml mcp, .slice cao cl ccp] 31
        have X1 := Box.new X0.frm [.slice none 0 0, .slice none 0 0] 31
        have Y0 := X0.no ((Frm.refl No _).alloc (.cells #[.slice none 0 0, .slice none 0 0] 31))
        simp only [World.size_alloc] at X1
        obtain ⟨W, hW⟩ : ∃ W, W = (w.alloc (.cells #[.slice mao ml mcp, .slice cao cl ccp] 31)).alloc (.cells #[.slice none 0 0, .slice none 0 0] 31) := ⟨_, rfl⟩
        rw [← hW] at X1 Y0 ⊢
        clear hW
        obtain ⟨b, hb⟩ : ∃ b, w.heap.size = b := ⟨_, rfl⟩
        rw [hb] at X1 Y0
        simp only [hb]
        have F1 := X1.frm
        have HX1 := hid X1
        have HY0 := hid Y0
        have cW := Y0.cell
        clear X0 X1 Y0
        go_wp2_with (go_at_call 13; refine (HM.out _ F1).mono ?_; rintro e w1 ⟨rfl, hfw1⟩; have BX := (HX1.out.no hfw1).no ((Frm.refl No w1).alloc (.cells #[.string ⟨nm.toArray⟩, .int .i64 ro, .int .i64 qu] 48)); have BY := (HY0.out.no hfw1).no ((Frm.refl No w1).alloc (.cells #[.string ⟨nm.toArray⟩, .int .i64 ro, .int .i64 qu] 48)); have cXw1 := BX.cell; have fXw1 := BX.fr; have cYw1 := BY.cell)
        have BX4 := (BX.set 0 (by simp) (.slice none 0 0)).set 1 (by simp) (.slice none 0 0)
        have e0 := BX4.cell 0
        have e1 := BX4.cell 1
        simp only [List.set_cons_zero, List.set_cons_succ, List.getElem?_cons_zero, List.getElem?_cons_succ] at e0 e1
        refine bodyPost_ret (v := .tuple #[.agg #[.slice none 0 0, .slice none 0 0], .int .i64 1]) (by simp [results, Tryz.results28, go_sem, e0, e1]) rfl ⟨_, _, rfl, nil_rd _, BX4.frm⟩
    · as_aux_lemma =>
      have HGR := hid (grant_ok (R := R) (n := n) (q := q) HH1.out (by omega))
      have h3a : ¬ q < 0 := fun h => h3 (.inl h)
      have h3b : ¬ 65536 < q := fun h => h3 (.inr h)
      clear h3
      go_enter Tryz.func28, Tryz.ntmps28
      go_upto_region 1 with fail
      have X0 := Box.new (Frm.refl No w) [.slice mao ml mcp, .slice cao cl ccp] 31
      have X1 := Box.new X0.frm [.slice none 0 0, .slice none 0 0] 31
      have Y0 := X0.no ((Frm.refl No _).alloc (.cells #[.slice none 0 0, .slice none 0 0] 31))
      simp only [World.size_alloc] at X1
      obtain ⟨W, hW⟩ : ∃ W, W = (w.alloc (.cells #[.slice mao ml mcp, .slice cao cl ccp] 31)).alloc (.cells #[.slice none 0 0, .slice none 0 0] 31) := ⟨_, rfl⟩
      rw [← hW] at X1 Y0 ⊢
      clear hW
      obtain ⟨b, hb⟩ : ∃ b, w.heap.size = b := ⟨_, rfl⟩
      rw [hb] at X1 Y0
      simp only [hb]
      have F1 := X1.frm
      have HX1 := hid X1
      have HY0 := hid Y0
      have cW := Y0.cell
      clear X0 X1 Y0
      go_upto_region 7 with (first | (go_at_call 13; refine (HM.out _ F1).mono ?_; rintro e w1 ⟨rfl, hfw1⟩; have BX := (HX1.out.no hfw1).no ((Frm.refl No w1).alloc (.cells #[.string ⟨nm.toArray⟩, .int .i64 ro, .int .i64 qu] 48)); have BY := (HY0.out.no hfw1).no ((Frm.refl No w1).alloc (.cells #[.string ⟨nm.toArray⟩, .int .i64 ro, .int .i64 qu] 48)); have cXw1 := BX.cell; have fXw1 := BX.fr; have cYw1 := BY.cell) | (go_at_call 67; refine (HC.out _ BY.frm).mono ?_; rintro e wc hcp; obtain ⟨ma', mc', ca', cc', cs', rfl, ho, hfc, hcl'⟩ := hcp.all' HML.out HCR2.out; have BA := BX.no hfc))
      have BA0 : w.heap.size ≤ (w1.alloc (.cells #[.string ⟨nm.toArray⟩, .int .i64 ro, .int .i64 qu] 48)).heap.size := BX.frm.size
      have hO := OutI.make 31 BA ho BX.lC BA0
      obtain ⟨WA, hWA⟩ : ∃ WA, WA = wc.alloc (.cells #[.slice ma' ml mc', .slice ca' cl cc'] 31) := ⟨_, rfl⟩
      rw [← hWA] at hO ⊢
      clear hWA
      obtain ⟨C, hC⟩ : ∃ C, wc.heap.size = C := ⟨_, rfl⟩
      rw [hC] at hO
      (try simp only [hC])
      have HO := hid hO
      clear hO BA BX BY cXw1 fXw1 cYw1 HX1 HY0 hfw1 F1 cW ho hfc HC HM hcp BA0
      generalize (w1.alloc (.cells #[.string ⟨nm.toArray⟩, .int .i64 ro, .int .i64 qu] 48)).heap.size = base at *
      obtain ⟨f, hfe⟩ : ∃ f : Mem → Mem, f = fun m => if m.name = n then ⟨m.name, m.role, q⟩ else m := ⟨_, rfl⟩
      rw [← hfe] at HGR
      have HFE := hid hfe
      clear hfe
      go_wp2_with fail
      go_loopw [11] (fun iv wr => ∃ i : Nat, i ≤ ml ∧ iv = .int .i64 (i : Int) ∧ OutI w wr (b + 1) C base (.slice ma' ml mc') (.slice ca' cl cc') ⟨(R.mems.take i).map f ++ R.mems.drop i, R.clss⟩ cs')
        (fun iv _ => ml - (intOf iv).toNat)
      case atStart => exact ⟨0, by omega, rfl, HO.out⟩
      case round =>
        clear HO
        obtain ⟨i, hi, rfl, hO⟩ := hrel
        have c0 := hO.box.cell 0
        simp only [List.getElem?_cons_zero] at c0
        by_cases hil : i < ml
        · as_aux_lemma =>
          have hilz : (i : Int) < (ml : Int) := by omega
          have hi2 : i < R.mems.length := by rw [HML.out]; exact hil
          have hLL : ((R.mems.take i).map f ++ R.mems.drop i).length = ml := by rw [List.length_append, List.length_map, List.length_take, List.length_drop, HML.out]; omega
          have HMP := hid (map_at f hi2 (by rw [hLL]; exact hil))
          have HMS := hid (map_set f hi2)
          have HMN := hid (map_same f hi2)
          obtain ⟨m, hm⟩ : ∃ m, R.mems[i] = m := ⟨_, rfl⟩
          simp only [hm] at HMP HMS HMN
          obtain ⟨L, hL⟩ : ∃ L, (R.mems.take i).map f ++ R.mems.drop i = L := ⟨_, rfl⟩
          simp only [hL] at hLL HMP HMS HMN hO
          have hmo := hO.own.mo
          dsimp only at hmo
          obtain ⟨g, cap, hv2, hbg, hgl, hnc, hgc, hgf⟩ := own_at memS (i := i) (by rw [hLL] at hmo ⊢; exact hmo) (by rw [hLL]; exact hil)
          rw [hLL] at hv2
          simp only [Value.slice.injEq, true_and] at hv2
          obtain ⟨rfl, rfl⟩ := hv2
          obtain ⟨nm, ro, qu⟩ := m
          have hLi : L[i]'(by rw [hLL]; exact hil) = ⟨nm, ro, qu⟩ := HMP.out
          have q0 := hgc 0 (by omega)
          have q2 := hgc 2 (by omega)
          rw [hLi] at q0 q2
          simp only [memV, List.getElem?_cons_zero, List.getElem?_cons_succ, Nat.add_zero] at q0 q2
          have HO := hid hO
          have hgf2 := hgf (i * 3 + 2)
          have HMO := hid hmo
          have HLL := hid hLL
          have HLI : Hid (∀ h : i < L.length, L[i]'h = ⟨nm, ro, qu⟩) := hid (fun _ => hLi)
          clear hO hmo hLi hLL hgc hgf hL hm HMP
          by_cases he : nm = n
          · as_aux_lemma =>
            have heb : (nm == n) = true := by rw [HDL.out]; exact decide_eq_true he
            have hfm : f ⟨nm, ro, qu⟩ = ⟨nm, ro, q⟩ := by rw [HFE.out]; exact if_pos he
            have HMT := hid HMS.out
            rw [hfm] at HMT
            have hset := own_set memS Tryz.prog (base := base) (l := L) (by rw [HLL.out]; have := HMO.out; rw [HLL.out] at this; exact this) (i := i) (j := 2) (by rw [HLL.out]; exact hil) (by omega) (x := .int .i64 q) rfl (y := ⟨nm, ro, q⟩) (by rw [HLI.out (by rw [HLL.out]; exact hil)]; rfl)
            have hFA : Frm (Own (.slice (some ⟨g, 0, none⟩) ml mc')) wr (wr.setCell ⟨g, i * 3 + 2, none⟩ (.int .i64 q)) := (setCell_own (.int .i64 q)).weak (fun k _ e => by have e : k = g := e; subst e; rfl)
            have hO3 := HO.out.putM _ hFA (by rw [List.length_set, HLL.out]; rw [HLL.out] at hset; exact hset)
            dsimp only at hO3
            rw [HMT.out] at hO3
            have HO3 := hid hO3
            clear he HMS HMN hfm hset hFA hO3 HMT HMO HO
            go_wp2_with fail
            exact ⟨⟨i + 1, by omega, by go_num, HO3.out⟩, by simp only [intOf]; omega⟩
          · as_aux_lemma =>
            have heb : (nm == n) = false := by rw [HDL.out]; exact decide_eq_false he
            have hfm : f ⟨nm, ro, qu⟩ = ⟨nm, ro, qu⟩ := by rw [HFE.out]; exact if_neg he
            have HN2 := hid (HMN.out hfm)
            clear he HMS HMN hfm HMO q2 hgf2
            go_wp2_with fail
            exact ⟨⟨i + 1, by omega, by go_num, by rw [← HN2.out]; exact HO.out⟩, by simp only [intOf]; omega⟩
        · as_aux_lemma =>
          obtain rfl : i = ml := by omega
          have hilz : ¬ (i : Int) < (i : Int) := by omega
          have hLL : (R.mems.take i).map f ++ R.mems.drop i = R.mems.map f := by rw [← HML.out, List.take_length, List.drop_length, List.append_nil]
          rw [hLL] at hO
          have c1 := hO.box.cell 1
          simp only [List.getElem?_cons_zero, List.getElem?_cons_succ] at c1
          have a0 := hO.res.cell
          have af := hO.res.fr
          have HO := hid hO
          clear hLL hO
          go_wp2_with fail
          obtain ⟨BE, hre⟩ := end_A HO.out.res nil3 nil3 HO.out.own.rd
          have e0 := BE.cell 0
          have e1 := BE.cell 1
          simp only [List.getElem?_cons_zero, List.getElem?_cons_succ] at e0 e1
          refine bodyPost_ret (v := .tuple #[.agg #[.slice ma' i mc', .slice ca' cl cc'], .int .i64 0]) (by simp [results, Tryz.results28, go_sem, e0, e1]) rfl ⟨_, _, by rw [HGR.out], by rw [HGR.out]; exact hre, BE.frm⟩
end Go.Proofs.YtofcmghhmklmiaaGreat
