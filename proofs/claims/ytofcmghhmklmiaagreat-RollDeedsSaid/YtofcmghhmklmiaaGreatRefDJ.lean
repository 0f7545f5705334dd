/- The reference's Join. Printed by a program (refdeeds.py). The reference's Part. Printed by a program (refdeeds.py). -/
import Derived.Test.YtofcmghhmklmiaaGreatRefDE
namespace Go.Proofs.YtofcmghhmklmiaaGreat
open Go.RowKit
open Roll
/-- The copy with other students in one class. -/
theorem OutI.rdS {w wr : World} {A C base g cap p b2 lc : Nat} {mv : Value} {R : Rl} {cs : List CV} {lo : Option Addr} {l : List B} (h : OutI w wr A C base mv (.slice (some ⟨g, 0, none⟩) cs.length cap) R cs) (hp : p < cs.length)
    (hl : wr.ownsRow b2 9 1 (.slice lo l.length lc) l.length (rows strV l)) (hb : g < b2) :
    RlR (wr.setCell ⟨g, p * 3 + 2, none⟩ (.slice lo l.length lc)) mv (.slice (some ⟨g, 0, none⟩) cs.length cap) ⟨R.mems, R.clss.set p ⟨cs[p].1.name, cs[p].1.teacher, l⟩⟩ ∧
      Box w (wr.setCell ⟨g, p * 3 + 2, none⟩ (.slice lo l.length lc)) A [.slice none 0 0, .slice none 0 0] ∧ Box w (wr.setCell ⟨g, p * 3 + 2, none⟩ (.slice lo l.length lc)) C [mv, .slice (some ⟨g, 0, none⟩) cs.length cap] := by
  have hF : Frm (Own (.slice (some ⟨g, 0, none⟩) cs.length cap)) wr (wr.setCell ⟨g, p * 3 + 2, none⟩ (.slice lo l.length lc)) := (setCell_own _).weak (fun k _ e => by have e : k = g := e; subst e; rfl)
  have hg : ∀ k, Own (.slice (some ⟨g, 0, none⟩) cs.length cap) k → w.heap.size ≤ k := fun k hk => by have := (h.own.b_lt (.inr (.inl hk))).1; have := h.lo; omega
  have hset := own_set clsS Tryz.prog (base := base) (l := cs) h.own.co (i := p) (j := 2) hp (by omega) (x := .slice lo l.length lc) rfl (y := (⟨cs[p].1.name, cs[p].1.teacher, l⟩, (lo, lc))) rfl
  refine ⟨⟨rdl_own memS (hF.row h.own.mo (fun k hk e => h.own.dmc k hk e)), cs.set p (⟨cs[p].1.name, cs[p].1.teacher, l⟩, (lo, lc)), ?_, ?_, fun x hx => ?_⟩, h.res.other hF (fun e => (h.off A (.inr (.inl e))).1 rfl) hg, h.box.other hF (fun e => (h.off C (.inr (.inl e))).2 rfl) hg⟩
  · rw [List.map_set, h.own.fst]
  · have := rdl_own clsS (l := cs.set p (⟨cs[p].1.name, cs[p].1.teacher, l⟩, (lo, lc))) (v := .slice (some ⟨g, 0, none⟩) cs.length cap) (by rw [List.length_set]; exact hset)
    exact this
  · rcases List.mem_or_eq_of_mem_set hx with hx | rfl
    · exact rdl_own strS (hF.row (h.own.so x hx) (fun k hk e => h.own.dcs x hx k e hk))
    · exact rdl_own strS (hF.row hl (fun k hk e => by have e : some g = some k := e; cases e; have := (hl.lt g hk).1; omega))
/-- A class of a roll that is read: its cells, its students. -/
theorem RlR.cls {w : World} {mv cv : Value} {R : Rl} (h : RlR w mv cv R) {p : Nat} (hp : p < R.clss.length) : ∃ g o c xo xc, cv = .slice (some ⟨g, o, none⟩) R.clss.length c ∧ w.cell? ⟨g, o + p * 3, none⟩ = some (.string ⟨R.clss[p].name.toArray⟩) ∧ w.cell? ⟨g, o + p * 3 + 1, none⟩ = some (.string ⟨R.clss[p].teacher.toArray⟩) ∧ w.cell? ⟨g, o + p * 3 + 2, none⟩ = some (.slice xo R.clss[p].students.length xc) ∧ RdL w (.slice xo R.clss[p].students.length xc) 1 strV R.clss[p].students ∧ g < w.heap.size := by
  obtain ⟨cs, h1, h2, h3⟩ := h.cr
  obtain ⟨mems, clss⟩ := R
  dsimp only at h1
  subst h1
  have hp2 : p < cs.length := by simpa using hp
  obtain ⟨ao, c, rfl⟩ := h2.shape
  obtain ⟨g, o, rfl, hc⟩ := h2.at_ (by omega)
  have q0 := hc p hp2 0 (by omega)
  have q1 := hc p hp2 1 (by omega)
  have q2 := hc p hp2 2 (by omega)
  simp only [clsV, List.getElem?_cons_zero, List.getElem?_cons_succ, ← Nat.add_assoc, Nat.add_zero] at q0 q1 q2
  have hs := h3 cs[p] (List.getElem_mem hp2)
  refine ⟨g, o, c, cs[p].2.1, cs[p].2.2, by simp, ?_, ?_, ?_, ?_, World.block_lt_of_cell? (u := .string ⟨cs[p].1.name.toArray⟩) w ⟨g, o + p * 3, none⟩ q0⟩
  · simp only [List.getElem_map]; exact q0
  · simp only [List.getElem_map]; exact q1
  · simp only [List.getElem_map]; exact q2
  · simp only [List.getElem_map]; exact hs
set_option maxRecDepth 100000 in
set_option maxHeartbeats 8000000 in
theorem rejoin_any (R : Rl) (mv cv : Value) (c s : B) (w : World) (hr : RlR w mv cv R) (hI : Inv R) :
    Calls Tryz.prog 31 #[.agg #[mv, cv], .string ⟨c.toArray⟩, .string ⟨s.toArray⟩] w (DeedP w (join R c s)) := by
  obtain ⟨s0, si, sz0, sz1, sz2⟩ := info_parts info_str
  have HRR := hid (fun w1 (hf : Frm No w w1) => hr.no hf)
  have hml := hI.ml
  have hcl := hI.cl
  have HM := hid (fun w1 (hf : Frm No w w1) => rfind_any R mv cv s w1 (hr.no hf) (by have := hI.ml; omega))
  have HK := hid (fun w1 (hf : Frm No w w1) => rof_any R mv cv c w1 (hr.no hf) hI)
  have HC := hid (fun w1 (hf : Frm No w w1) => rcopy_any R mv cv [] w1 (hr.no hf) hI)
  obtain ⟨mao, mcp, rfl⟩ := hr.mr.shape
  obtain ⟨cs, hfs, hc, -⟩ := hr.cr
  have hcsl : cs.length = R.clss.length := by rw [← hfs]; simp
  have HCR := hid (fun w1 (hf : Frm No w w1) => hc.frm (fun _ _ => rfl) hf (fun _ _ h => h))
  have HFS := hid hfs
  obtain ⟨cao, ccp, rfl⟩ := hc.shape
  obtain ⟨ml, hmle⟩ : ∃ ml, R.mems.length = ml := ⟨_, rfl⟩
  obtain ⟨cl, hcle⟩ : ∃ cl, cs.length = cl := ⟨_, rfl⟩
  have HML := hid hmle
  have HCL := hid hcle
  have HCR2 : Hid (R.clss.length = cl) := hid (by omega)
  have HDL : Hid (∀ x y : B, (x == y) = decide (x = y)) := hid (fun x y => by rw [Bool.eq_iff_iff]; simp)
  have HI := hid hI
  rw [← hcsl, hcle] at hcl
  rw [hmle] at hml ⊢
  rw [hcle] at ⊢
  simp only [hmle, hcle] at HM HK HC HRR
  clear hr hc hfs hcsl hmle hcle hI
  cases h1 : has Cls.name R.clss c with
  | false =>
    have HH1 := hid (find_none.2 h1)
    rw [ofB_no h1] at HK
    clear h1
    cases h2 : find Mem.name R.mems s with
    | none =>
      as_aux_lemma =>
      have he : join R c s = (Roll.nil, 10) := by unfold join; rw [HH1.out]
      rw [h2] at HM
      rw [he]
      clear he h2 HC HI HML HCR HFS HCL HCR2 HRR
      go_enter Tryz.func31, Tryz.ntmps31
      go_upto_region 1 with fail
      have X0 := Box.new (Frm.refl No w) [.slice mao ml mcp, .slice cao cl ccp] 31
      have X1 := Box.new X0.frm [.slice none 0 0, .slice none 0 0] 31
      have Y0 := X0.no ((Frm.refl No _).alloc (.cells #[.slice none 0 0, .slice none 0 0] 31))
      simp only [World.size_alloc] at X1
      obtain ⟨W, hW⟩ : ∃ W, W = (w.alloc (.cells #[.slice mao ml mcp, .slice cao cl ccp] 31)).alloc (.cells #[.slice none 0 0, .slice none 0 0] 31) := ⟨_, rfl⟩
      rw [← hW] at X1 Y0 ⊢
      clear hW
      obtain ⟨b, hb⟩ : ∃ b, w.heap.size = b := ⟨_, rfl⟩
      rw [hb] at X1 Y0
      simp only [hb]
      have F1 := X1.frm
      have HX1 := hid X1
      have HY0 := hid Y0
      have cW := Y0.cell
      clear X0 X1 Y0
      go_wp2_with (first | (go_at_call 15; refine (HK.out _ F1).mono ?_; rintro e w1 ⟨rfl, hfw1⟩; have BX := HX1.out.no hfw1; have BY := HY0.out.no hfw1; have cXw1 := BX.cell; have fXw1 := BX.fr; have cYw1 := BY.cell) | (go_at_call 13; refine (HM.out _ BY.frm).mono ?_; rintro e w2 ⟨rfl, hfw2⟩; have BX2 := (BX.no hfw2).no ((Frm.refl No w2).alloc (.cells #[.string ⟨([] : B).toArray⟩, .int .i64 0, .int .i64 0] 48)); have BY2 := (BY.no hfw2).no ((Frm.refl No w2).alloc (.cells #[.string ⟨([] : B).toArray⟩, .int .i64 0, .int .i64 0] 48)); have cXw2 := BX2.cell; have fXw2 := BX2.fr; have cYw2 := BY2.cell))
      have BX4 := (BX2.set 0 (by simp) (.slice none 0 0)).set 1 (by simp) (.slice none 0 0)
      have e0 := BX4.cell 0
      have e1 := BX4.cell 1
      simp only [List.set_cons_zero, List.set_cons_succ, List.getElem?_cons_zero, List.getElem?_cons_succ] at e0 e1
      refine bodyPost_ret (v := .tuple #[.agg #[.slice none 0 0, .slice none 0 0], .int .i64 10]) (by simp [results, Tryz.results31, go_sem, e0, e1]) rfl ⟨_, _, rfl, nil_rd _, BX4.frm⟩
    | some m =>
      as_aux_lemma =>
      have he : join R c s = (Roll.nil, 10) := by unfold join; rw [HH1.out]
      rw [h2] at HM
      rw [he]
      clear he h2 HC HI HML HCR HFS HCL HCR2 HRR
      obtain ⟨nm, ro, qu⟩ := m
      go_enter Tryz.func31, Tryz.ntmps31
      go_upto_region 1 with fail
      have X0 := Box.new (Frm.refl No w) [.slice mao ml mcp, .slice cao cl ccp] 31
      have X1 := Box.new X0.frm [.slice none 0 0, .slice none 0 0] 31
      have Y0 := X0.no ((Frm.refl No _).alloc (.cells #[.slice none 0 0, .slice none 0 0] 31))
      simp only [World.size_alloc] at X1
      obtain ⟨W, hW⟩ : ∃ W, W = (w.alloc (.cells #[.slice mao ml mcp, .slice cao cl ccp] 31)).alloc (.cells #[.slice none 0 0, .slice none 0 0] 31) := ⟨_, rfl⟩
      rw [← hW] at X1 Y0 ⊢
      clear hW
      obtain ⟨b, hb⟩ : ∃ b, w.heap.size = b := ⟨_, rfl⟩
      rw [hb] at X1 Y0
      simp only [hb]
      have F1 := X1.frm
      have HX1 := hid X1
      have HY0 := hid Y0
      have cW := Y0.cell
      clear X0 X1 Y0
      go_wp2_with (first | (go_at_call 15; refine (HK.out _ F1).mono ?_; rintro e w1 ⟨rfl, hfw1⟩; have BX := HX1.out.no hfw1; have BY := HY0.out.no hfw1; have cXw1 := BX.cell; have fXw1 := BX.fr; have cYw1 := BY.cell) | (go_at_call 13; refine (HM.out _ BY.frm).mono ?_; rintro e w2 ⟨rfl, hfw2⟩; have BX2 := (BX.no hfw2).no ((Frm.refl No w2).alloc (.cells #[.string ⟨nm.toArray⟩, .int .i64 ro, .int .i64 qu] 48)); have BY2 := (BY.no hfw2).no ((Frm.refl No w2).alloc (.cells #[.string ⟨nm.toArray⟩, .int .i64 ro, .int .i64 qu] 48)); have cXw2 := BX2.cell; have fXw2 := BX2.fr; have cYw2 := BY2.cell))
      have BX4 := (BX2.set 0 (by simp) (.slice none 0 0)).set 1 (by simp) (.slice none 0 0)
      have e0 := BX4.cell 0
      have e1 := BX4.cell 1
      simp only [List.set_cons_zero, List.set_cons_succ, List.getElem?_cons_zero, List.getElem?_cons_succ] at e0 e1
      refine bodyPost_ret (v := .tuple #[.agg #[.slice none 0 0, .slice none 0 0], .int .i64 10]) (by simp [results, Tryz.results31, go_sem, e0, e1]) rfl ⟨_, _, rfl, nil_rd _, BX4.frm⟩
  | true =>
    obtain ⟨hpl, hfd⟩ := find_at HI.out.cs h1
    have HH1 := hid h1
    rw [ofB_yes h1] at HK
    clear h1
    obtain ⟨p, hpe⟩ : ∃ p, place Cls.name R.clss c = p := ⟨_, rfl⟩
    have HPE := hid hpe
    have hfd0 : ∀ h : p < R.clss.length, find Cls.name R.clss c = some (R.clss[p]'h) := by subst hpe; exact fun _ => hfd
    clear hfd
    simp only [hpe] at HK hpl
    have HFD := hid (hfd0 hpl)
    clear hfd0
    rw [HCR2.out] at hpl
    have hp0 : ¬ (p : Int) < 0 := by omega
    have hpz : (p : Int) < (cl : Int) := by omega
    clear hpe
    cases h2 : find Mem.name R.mems s with
    | none =>
      as_aux_lemma =>
      have he : join R c s = (Roll.nil, 10) := by unfold join; rw [HFD.out, h2]
      rw [h2] at HM
      rw [he]
      clear he h2 HC HI HML HCR HFS HCL HCR2 HRR HFD
      go_enter Tryz.func31, Tryz.ntmps31
      go_upto_region 1 with fail
      have X0 := Box.new (Frm.refl No w) [.slice mao ml mcp, .slice cao cl ccp] 31
      have X1 := Box.new X0.frm [.slice none 0 0, .slice none 0 0] 31
      have Y0 := X0.no ((Frm.refl No _).alloc (.cells #[.slice none 0 0, .slice none 0 0] 31))
      simp only [World.size_alloc] at X1
      obtain ⟨W, hW⟩ : ∃ W, W = (w.alloc (.cells #[.slice mao ml mcp, .slice cao cl ccp] 31)).alloc (.cells #[.slice none 0 0, .slice none 0 0] 31) := ⟨_, rfl⟩
      rw [← hW] at X1 Y0 ⊢
      clear hW
      obtain ⟨b, hb⟩ : ∃ b, w.heap.size = b := ⟨_, rfl⟩
      rw [hb] at X1 Y0
      simp only [hb]
      have F1 := X1.frm
      have HX1 := hid X1
      have HY0 := hid Y0
      have cW := Y0.cell
      clear X0 X1 Y0
      go_wp2_with (first | (go_at_call 15; refine (HK.out _ F1).mono ?_; rintro e w1 ⟨rfl, hfw1⟩; have BX := HX1.out.no hfw1; have BY := HY0.out.no hfw1; have cXw1 := BX.cell; have fXw1 := BX.fr; have cYw1 := BY.cell) | (go_at_call 13; refine (HM.out _ BY.frm).mono ?_; rintro e w2 ⟨rfl, hfw2⟩; have BX2 := (BX.no hfw2).no ((Frm.refl No w2).alloc (.cells #[.string ⟨([] : B).toArray⟩, .int .i64 0, .int .i64 0] 48)); have BY2 := (BY.no hfw2).no ((Frm.refl No w2).alloc (.cells #[.string ⟨([] : B).toArray⟩, .int .i64 0, .int .i64 0] 48)); have cXw2 := BX2.cell; have fXw2 := BX2.fr; have cYw2 := BY2.cell))
      have BX4 := (BX2.set 0 (by simp) (.slice none 0 0)).set 1 (by simp) (.slice none 0 0)
      have e0 := BX4.cell 0
      have e1 := BX4.cell 1
      simp only [List.set_cons_zero, List.set_cons_succ, List.getElem?_cons_zero, List.getElem?_cons_succ] at e0 e1
      refine bodyPost_ret (v := .tuple #[.agg #[.slice none 0 0, .slice none 0 0], .int .i64 10]) (by simp [results, Tryz.results31, go_sem, e0, e1]) rfl ⟨_, _, rfl, nil_rd _, BX4.frm⟩
    | some m =>
      have HH2 := hid h2
      rw [h2] at HM
      clear h2
      obtain ⟨nm, ro, qu⟩ := m
      by_cases h4 : ro ≠ 1
      · as_aux_lemma =>
        have he : join R c s = (Roll.nil, 13) := by unfold join; rw [HFD.out, HH2.out]; dsimp only; rw [if_pos h4]
        rw [he]
        have h4a : (ro == 1) = false := by simpa using h4
        have h4b : (ro != 1) = true := by simpa using h4
        clear he h4 HH2 HC HI HML HCR HFS HCL HCR2 HRR HFD
        go_enter Tryz.func31, Tryz.ntmps31
        go_upto_region 1 with fail
        have X0 := Box.new (Frm.refl No w) [.slice mao ml mcp, .slice cao cl ccp] 31
        have X1 := Box.new X0.frm [.slice none 0 0, .slice none 0 0] 31
        have Y0 := X0.no ((Frm.refl No _).alloc (.cells #[.slice none 0 0, .slice none 0 0] 31))
        simp only [World.size_alloc] at X1
        obtain ⟨W, hW⟩ : ∃ W, W = (w.alloc (.cells #[.slice mao ml mcp, .slice cao cl ccp] 31)).alloc (.cells #[.slice none 0 0, .slice none 0 0] 31) := ⟨_, rfl⟩
        rw [← hW] at X1 Y0 ⊢
        clear hW
        obtain ⟨b, hb⟩ : ∃ b, w.heap.size = b := ⟨_, rfl⟩
        rw [hb] at X1 Y0
        simp only [hb]
        have F1 := X1.frm
        have HX1 := hid X1
        have HY0 := hid Y0
        have cW := Y0.cell
        clear X0 X1 Y0
        go_wp2_with (first | (go_at_call 15; refine (HK.out _ F1).mono ?_; rintro e w1 ⟨rfl, hfw1⟩; have BX := HX1.out.no hfw1; have BY := HY0.out.no hfw1; have cXw1 := BX.cell; have fXw1 := BX.fr; have cYw1 := BY.cell) | (go_at_call 13; refine (HM.out _ BY.frm).mono ?_; rintro e w2 ⟨rfl, hfw2⟩; have BX2 := (BX.no hfw2).no ((Frm.refl No w2).alloc (.cells #[.string ⟨nm.toArray⟩, .int .i64 ro, .int .i64 qu] 48)); have BY2 := (BY.no hfw2).no ((Frm.refl No w2).alloc (.cells #[.string ⟨nm.toArray⟩, .int .i64 ro, .int .i64 qu] 48)); have cXw2 := BX2.cell; have fXw2 := BX2.fr; have cYw2 := BY2.cell))
        have BX4 := (BX2.set 0 (by simp) (.slice none 0 0)).set 1 (by simp) (.slice none 0 0)
        have e0 := BX4.cell 0
        have e1 := BX4.cell 1
        simp only [List.set_cons_zero, List.set_cons_succ, List.getElem?_cons_zero, List.getElem?_cons_succ] at e0 e1
        refine bodyPost_ret (v := .tuple #[.agg #[.slice none 0 0, .slice none 0 0], .int .i64 13]) (by simp [results, Tryz.results31, go_sem, e0, e1]) rfl ⟨_, _, rfl, nil_rd _, BX4.frm⟩
      · obtain rfl : ro = 1 := by omega
        clear h4
        have HCC := hid (fun w1 (hf : Frm No w w1) => (HRR.out w1 hf).cls (p := p) (by rw [HCR2.out]; exact hpl))
        have hsl : (R.clss[p]'(by rw [HCR2.out]; exact hpl)).students.length ≤ 256 := HI.out.students (List.getElem_mem _)
        obtain ⟨g0, o0, c0, xo0, xc0, hcv, k0, k1, k2, kr, kg⟩ := HCC.out w (Frm.refl No w)
        rw [HCR2.out] at hcv
        simp only [Value.slice.injEq, true_and] at hcv
        obtain ⟨rfl, rfl⟩ := hcv
        obtain ⟨X, hX⟩ : ∃ X, R.clss[p]'(by rw [HCR2.out]; exact hpl) = X := ⟨_, rfl⟩
        have HXX := hid hX
        simp only [hX] at k2 kr hsl HFD
        have HK2 := hid (fun w1 (hf : Frm No w w1) => (hf.cell (p := ⟨g0, o0 + p * 3 + 2, none⟩) kg (fun h => h)).trans k2)
        have HIN := hid (fun w1 (hf : Frm No w w1) => rin_any X.students _ s w1 (kr.frm (fun _ _ => rfl) hf (fun _ _ h => h)) (by omega))
        have hxl0 := hsl
        clear k0 k1 k2 kr hX HCC hsl
        cases h5 : has id X.students s with
        | true =>
          as_aux_lemma =>
          have he : join R c s = (Roll.nil, 9) := by unfold join; rw [HFD.out, HH2.out]; dsimp only; rw [if_neg (by omega), if_pos h5]
          rw [he]
          rw [h5] at HIN
          clear he h5 HH2 HC HI HML HCR HFS HCL HRR HFD HXX
          generalize X.students.length = xl0 at *
          go_enter Tryz.func31, Tryz.ntmps31
          go_upto_region 1 with fail
          have X0 := Box.new (Frm.refl No w) [.slice mao ml mcp, .slice (some ⟨g0, o0, none⟩) cl ccp] 31
          have X1 := Box.new X0.frm [.slice none 0 0, .slice none 0 0] 31
          have Y0 := X0.no ((Frm.refl No _).alloc (.cells #[.slice none 0 0, .slice none 0 0] 31))
          simp only [World.size_alloc] at X1
          obtain ⟨W, hW⟩ : ∃ W, W = (w.alloc (.cells #[.slice mao ml mcp, .slice (some ⟨g0, o0, none⟩) cl ccp] 31)).alloc (.cells #[.slice none 0 0, .slice none 0 0] 31) := ⟨_, rfl⟩
          rw [← hW] at X1 Y0 ⊢
          clear hW
          obtain ⟨b, hb⟩ : ∃ b, w.heap.size = b := ⟨_, rfl⟩
          rw [hb] at X1 Y0
          simp only [hb]
          have F1 := X1.frm
          have HX1 := hid X1
          have HY0 := hid Y0
          have cW := Y0.cell
          clear X0 X1 Y0
          go_wp2_with (first | (go_at_call 15; refine (HK.out _ F1).mono ?_; rintro e w1 ⟨rfl, hfw1⟩; have BX := HX1.out.no hfw1; have BY := HY0.out.no hfw1; have cXw1 := BX.cell; have fXw1 := BX.fr; have cYw1 := BY.cell) | (go_at_call 13; refine (HM.out _ BY.frm).mono ?_; rintro e w2 ⟨rfl, hfw2⟩; have BX2 := (BX.no hfw2).no ((Frm.refl No w2).alloc (.cells #[.string ⟨nm.toArray⟩, .int .i64 1, .int .i64 qu] 48)); have BY2 := (BY.no hfw2).no ((Frm.refl No w2).alloc (.cells #[.string ⟨nm.toArray⟩, .int .i64 1, .int .i64 qu] 48)); have cXw2 := BX2.cell; have fXw2 := BX2.fr; have kk2 := HK2.out _ BY2.frm; have cYw2 := BY2.cell) | (go_at_call 16; refine (HIN.out _ BY2.frm).mono ?_; rintro e w3 ⟨rfl, rfl⟩))
          have BX4 := (BX2.set 0 (by simp) (.slice none 0 0)).set 1 (by simp) (.slice none 0 0)
          have e0 := BX4.cell 0
          have e1 := BX4.cell 1
          simp only [List.set_cons_zero, List.set_cons_succ, List.getElem?_cons_zero, List.getElem?_cons_succ] at e0 e1
          refine bodyPost_ret (v := .tuple #[.agg #[.slice none 0 0, .slice none 0 0], .int .i64 9]) (by simp [results, Tryz.results31, go_sem, e0, e1]) rfl ⟨_, _, rfl, nil_rd _, BX4.frm⟩
        | false =>
          as_aux_lemma =>
          have HGR := hid (join_ok HI.out HH1.out (by rw [HPE.out, HCR2.out]; exact hpl) HH2.out rfl (by simp only [HPE.out, HXX.out]; exact h5))
          simp only [HPE.out] at HGR
          rw [h5] at HIN
          clear h5
          generalize X.students.length = xl0 at *
          go_enter Tryz.func31, Tryz.ntmps31
          go_upto_region 1 with fail
          have X0 := Box.new (Frm.refl No w) [.slice mao ml mcp, .slice (some ⟨g0, o0, none⟩) cl ccp] 31
          have X1 := Box.new X0.frm [.slice none 0 0, .slice none 0 0] 31
          have Y0 := X0.no ((Frm.refl No _).alloc (.cells #[.slice none 0 0, .slice none 0 0] 31))
          simp only [World.size_alloc] at X1
          obtain ⟨W, hW⟩ : ∃ W, W = (w.alloc (.cells #[.slice mao ml mcp, .slice (some ⟨g0, o0, none⟩) cl ccp] 31)).alloc (.cells #[.slice none 0 0, .slice none 0 0] 31) := ⟨_, rfl⟩
          rw [← hW] at X1 Y0 ⊢
          clear hW
          obtain ⟨b, hb⟩ : ∃ b, w.heap.size = b := ⟨_, rfl⟩
          rw [hb] at X1 Y0
          simp only [hb]
          have F1 := X1.frm
          have HX1 := hid X1
          have HY0 := hid Y0
          have cW := Y0.cell
          clear X0 X1 Y0
          go_upto_region 10 with (first | (go_at_call 15; refine (HK.out _ F1).mono ?_; rintro e w1 ⟨rfl, hfw1⟩; have BX := HX1.out.no hfw1; have BY := HY0.out.no hfw1; have cXw1 := BX.cell; have fXw1 := BX.fr; have cYw1 := BY.cell) | (go_at_call 13; refine (HM.out _ BY.frm).mono ?_; rintro e w2 ⟨rfl, hfw2⟩; have BX2 := (BX.no hfw2).no ((Frm.refl No w2).alloc (.cells #[.string ⟨nm.toArray⟩, .int .i64 1, .int .i64 qu] 48)); have BY2 := (BY.no hfw2).no ((Frm.refl No w2).alloc (.cells #[.string ⟨nm.toArray⟩, .int .i64 1, .int .i64 qu] 48)); have cXw2 := BX2.cell; have fXw2 := BX2.fr; have kk2 := HK2.out _ BY2.frm; have cYw2 := BY2.cell) | (go_at_call 16; refine (HIN.out _ BY2.frm).mono ?_; rintro e w3 ⟨rfl, rfl⟩) | (go_at_call 67; refine (HC.out _ BY2.frm).mono ?_; rintro e wc hcp; obtain ⟨ma', mc', ca', cc', cs', rfl, ho, hfc, hcl'⟩ := hcp.all' HML.out HCR2.out; have BA := BX2.no hfc))
          have BA0 : w.heap.size ≤ (w2.alloc (.cells #[.string ⟨nm.toArray⟩, .int .i64 1, .int .i64 qu] 48)).heap.size := BX2.frm.size
          have hO := OutI.make 31 BA ho BX2.lC BA0
          obtain ⟨WA, hWA⟩ : ∃ WA, WA = wc.alloc (.cells #[.slice ma' ml mc', .slice ca' cl cc'] 31) := ⟨_, rfl⟩
          rw [← hWA] at hO ⊢
          clear hWA
          obtain ⟨C, hC⟩ : ∃ C, wc.heap.size = C := ⟨_, rfl⟩
          rw [hC] at hO
          (try simp only [hC])
          have HO := hid hO
          clear hO BA BX BY BX2 BY2 cXw1 fXw1 cYw1 cXw2 fXw2 cYw2 kk2 HX1 HY0 hfw1 hfw2 F1 cW ho hfc HC HK HM HIN HK2 HRR kg hcp BA0 hxl0
          generalize (w2.alloc (.cells #[.string ⟨nm.toArray⟩, .int .i64 1, .int .i64 qu] 48)).heap.size = base at *
          have hpc : p < cs'.length := by rw [hcl']; exact hpl
          have hco := HO.out.own.co
          have hci : cs'[p].1 = R.clss[p]'(by rw [HCR2.out]; exact hpl) := by
            have h1 := HO.out.own.fst
            simp only [← h1, List.getElem_map]
          have hsr := HO.out.own.rd
          have hst : RdL WA (sv cs'[p]) 1 strV cs'[p].1.students := rdl_own strS (HO.out.own.so _ (List.getElem_mem hpc))
          rw [hcl'] at hco
          obtain ⟨g, cap, hv2, hbg, hgl, hnc, hgc, hgf⟩ := own_at clsS (i := p) (by rw [← hcl'] at hco; rw [hcl'] at hco ⊢; exact hco) hpc
          rw [hcl'] at hv2
          simp only [Value.slice.injEq, true_and] at hv2
          obtain ⟨rfl, rfl⟩ := hv2
          have q2 := hgc 2 (by omega)
          have hgf2 := hgf (p * 3 + 2)
          simp only [clsV, List.getElem?_cons_zero, List.getElem?_cons_succ] at q2
          have HNM : Hid ((⟨cs'[p].1.name, cs'[p].1.teacher, cs'[p].1.students⟩ : Cls) = R.clss[p]'(by rw [HCR2.out]; exact hpl)) := hid hci
          obtain ⟨⟨⟨xn, xt, xs⟩, xo, xc⟩, hxe⟩ : ∃ x, cs'[p] = x := ⟨_, rfl⟩
          have HXE : Hid (∀ h : p < cs'.length, cs'[p]'h = (⟨xn, xt, xs⟩, xo, xc)) := hid (fun _ => hxe)
          simp only [hxe] at q2 hst HNM
          dsimp only [sv] at hst
          have hxl : xs.length ≤ 256 := by
            have := HI.out.students (List.getElem_mem (l := R.clss) (n := p) (by rw [HCR2.out]; exact hpl))
            rw [← HNM.out] at this
            exact this
          have HST := hid hst
          obtain ⟨xl, hxle⟩ : ∃ xl, xs.length = xl := ⟨_, rfl⟩
          have HXL := hid hxle
          rw [hxle] at q2 hxl
          have hgW : g < WA.heap.size := hgl
          have c0 := HO.out.box.cell
          clear hco hci hsr hst hgc hgf hxe hxle hbg hnc hgl
          have HGR2 : Hid (join R c s = (⟨R.mems, R.clss.set p ⟨xn, xt, insL id s s xs⟩⟩, 0)) := hid (by rw [HGR.out, ← HNM.out])
          clear HGR HXX HFD
          go_wp2_with fail
          go_loopw [12, 13, 15] (fun lv dv iv wr => ∃ (i : Nat) (d : Bool) (acc : List B), i ≤ xl ∧ iv = .int .i64 (i : Int) ∧ dv = .bool d ∧ IsL id s s xs i d acc ∧ wr.ownsRow WA.heap.size 9 1 lv acc.length (rows strV acc) ∧ Frm No WA wr)
            (fun _ _ iv _ => xl - (intOf iv).toNat)
          case atStart => exact ⟨0, false, [], by omega, rfl, rfl, IsL.start _ _ _, World.ownsRow_nil _ _ _ _, Frm.refl _ _⟩
          case round =>
            obtain ⟨i, d, acc, hi, rfl, rfl, hIs, hown, hf⟩ := hrel
            have hO := HO.out.no hf
            obtain ⟨lo, lc, rfl⟩ := ownsRow_shape hown
            obtain ⟨al, hal⟩ : ∃ al, acc.length = al := ⟨_, rfl⟩
            have hal2 : al ≤ xl + 1 := by have := hIs.len; rw [HXL.out, hal] at this; exact this
            have HAL := hid hal
            rw [hal] at hown ⊢
            have HOWN := hid hown
            have HF := hid hf
            have HIS := hid hIs
            have hsz := hf.size
            have HOR := hid hO
            have HQ2 : Hid (∀ w', Frm No WA w' → w'.cell? ⟨g, p * 3 + 2, none⟩ = some (.slice xo xl xc) ∧ w'.frozen? ⟨g, p * 3 + 2, none⟩ = false) := hid (fun w' hf => ⟨(hf.cell (p := ⟨g, p * 3 + 2, none⟩) hgW (fun h => h)).trans q2, (hf.frozen (p := ⟨g, p * 3 + 2, none⟩) hgW (fun h => h)).trans hgf2⟩)
            have c0 := hO.box.cell
            clear hIs hown hal hf
            by_cases hil : i < xl
            · as_aux_lemma =>
              have hilz : (i : Int) < (xl : Int) := by omega
              have hi2 : i < xs.length := by rw [HXL.out]; exact hil
              have hsr : RdL wr (.slice xo xs.length xc) 1 strV xs := HST.out.frm (fun _ _ => rfl) HF.out (fun _ _ h => h)
              obtain ⟨g2, o2, rfl, hcc⟩ := hsr.at_ (by omega)
              have r0 := hcc i hi2 0 (by omega)
              have HY := hid (fun (h : IsL id s s xs i true acc) => h.yes hi2)
              have HN := hid (fun (h : IsL id s s xs i false acc) => And.intro (h.now hi2) (h.not hi2))
              have hg2W : g2 < WA.heap.size := by
                obtain ⟨g', o', h2, h3⟩ := HST.out.at_ (by omega)
                cases h2
                have h4 := h3 i hi2 0 (by omega)
                exact World.block_lt_of_cell? (u := .string ⟨xs[i].toArray⟩) WA ⟨g2, o2 + (i * 1 + 0), none⟩ h4
              obtain ⟨sx, hsx⟩ : ∃ sx, xs[i] = sx := ⟨_, rfl⟩
              simp only [hsx, id] at r0 HY HN
              simp only [strV, List.getElem?_cons_zero, Nat.mul_one, Nat.add_zero] at r0
              have HBL : Hid ((!(Op.bytesLess sx s) && !(sx == s)) = decide (s < sx)) := hid (gt_eq s sx)
              have SK : Hid (∀ w', Frm No WA w' → w'.cell? ⟨g2, o2 + i, none⟩ = some (.string ⟨sx.toArray⟩)) := hid fun w' hf => ((hf.cell (p := ⟨g2, o2 + i, none⟩) hg2W (fun h => h)).trans (HF.out.cell (p := ⟨g2, o2 + i, none⟩) hg2W (fun h => h)).symm).trans r0
              clear hsr hcc hsx hO HO HOR c0
              go_upto_region 16 with fail
              go_cut [68] from 59 to 68 (fun p wq => p = .bool (!d && decide (s < sx)) ∧ wq = wr)
              case first =>
                as_aux_lemma =>
                cases d with
                | true =>
                  go_wp2_with fail
                  go_meet
                  exact ⟨rfl, rfl⟩
                | false =>
                  go_wp2_with fail
                  go_meet
                  exact ⟨by rw [← HBL.out]; rfl, rfl⟩
              case rest =>
                as_aux_lemma =>
                obtain ⟨rfl, hwq⟩ := hcut
                have hwq := hwq.symm
                subst hwq
                cases d with
                | true =>
                  as_aux_lemma =>
                  have HNX := hid (HY.out HIS.out)
                  rw [show (!true && decide (s < sx)) = false from rfl]
                  clear HN HY HIS HBL
                  go_wp2_with (at_builtin; refine wpList_push _ rfl (.tmp 73) (.tmp 78) 51 rfl WA.heap.size 9 s0 _ 1 16 Tryz.underlying51 si sz0 sz1 sz2 rfl (.slice lo al lc) (al) (rows strV acc) rfl HOWN.out (strV sx) rfl rfl (strS.one _) (by omega) (by omega) hsz ?_; intro v4 w4 hown4 hfr4 hv4 hz4)
                  have hF4 := frm_own HF.out hfr4 (fun k hk => (HOWN.out.lt k hk).1)
                  exact ⟨⟨i + 1, true, _, by omega, by go_num, rfl, HNX.out, by rw [List.length_append, HAL.out, ← rows_snoc]; exact hown4, hF4⟩, by simp only [intOf]; omega⟩
                | false =>
                  by_cases hlt : s < sx
                  · as_aux_lemma =>
                    rw [decide_eq_true hlt]
                    have HNX := hid ((HN.out HIS.out).1 hlt)
                    clear HN HY HIS hlt HBL
                    go_wp2_with (first | (at_builtin; refine wpList_push _ rfl (.tmp 69) (.tmp 71) 51 rfl WA.heap.size 9 s0 _ 1 16 Tryz.underlying51 si sz0 sz1 sz2 rfl (.slice lo al lc) (al) (rows strV acc) rfl HOWN.out (strV s) rfl rfl (strS.one _) (by omega) (by omega) hsz ?_; intro v4 w4 hown4 hfr4 hv4 hz4; have hF4 := frm_own HF.out hfr4 (fun k hk => (HOWN.out.lt k hk).1); have d0 := SK.out _ hF4; obtain ⟨lo4, lc4, rfl⟩ := ownsRow_shape hown4; have hsz4 := hF4.size) | (at_builtin; refine wpList_push _ rfl (.tmp 73) (.tmp 78) 51 rfl WA.heap.size 9 s0 _ 1 16 Tryz.underlying51 si sz0 sz1 sz2 rfl (.slice lo4 (al + 1) lc4) (al + 1) (rows strV acc ++ strV s) rfl hown4 (strV sx) rfl rfl (strS.one _) (by omega) (by omega) hsz4 ?_; intro v5 w5 hown5 hfr5 hv5 hz5))
                    have hF5 := frm_own hF4 hfr5 (fun k hk => (hown4.lt k hk).1)
                    exact ⟨⟨i + 1, true, _, by omega, by go_num, rfl, HNX.out, by rw [List.length_append, List.length_append, HAL.out, ← rows_snoc, ← rows_snoc]; exact hown5, hF5⟩, by simp only [intOf]; omega⟩
                  · as_aux_lemma =>
                    rw [decide_eq_false hlt]
                    have HNX := hid ((HN.out HIS.out).2 hlt)
                    clear HN HY HIS hlt HBL
                    go_wp2_with (at_builtin; refine wpList_push _ rfl (.tmp 73) (.tmp 78) 51 rfl WA.heap.size 9 s0 _ 1 16 Tryz.underlying51 si sz0 sz1 sz2 rfl (.slice lo al lc) (al) (rows strV acc) rfl HOWN.out (strV sx) rfl rfl (strS.one _) (by omega) (by omega) hsz ?_; intro v4 w4 hown4 hfr4 hv4 hz4)
                    have hF4 := frm_own HF.out hfr4 (fun k hk => (HOWN.out.lt k hk).1)
                    exact ⟨⟨i + 1, false, _, by omega, by go_num, rfl, HNX.out, by rw [List.length_append, HAL.out, ← rows_snoc]; exact hown4, hF4⟩, by simp only [intOf]; omega⟩
            · as_aux_lemma =>
              obtain rfl : i = xl := by omega
              have hilz : ¬ (i : Int) < (i : Int) := by omega
              cases d with
              | true =>
                as_aux_lemma =>
                have HEND : Hid (acc = insL id s s xs) := hid (by have := HIS.out; rw [← HXL.out] at this; exact this.endY)
                obtain ⟨q2z, q2f⟩ := HQ2.out _ HF.out
                have hrd := OutI.rdS (p := p) (l := acc) (lo := lo) (lc := lc) (b2 := WA.heap.size) (by rw [hcl']; exact HOR.out) (by rw [hcl']; exact hpl) (by rw [HAL.out]; exact HOWN.out) hgW
                simp only [HXE.out, hcl', HAL.out] at hrd
                obtain ⟨hr9, BA9, BC9⟩ := hrd
                have d0 := BC9.cell
                have d1 := BA9.cell
                have d1f := BA9.fr
                have HR9 := hid hr9
                have HB9 := hid BA9
                clear hO hr9 BA9 BC9 HIS
                go_wp2_with fail
                obtain ⟨BE, hre⟩ := end_A HB9.out nil3 nil3 HR9.out
                have e0 := BE.cell 0
                have e1 := BE.cell 1
                simp only [List.getElem?_cons_zero, List.getElem?_cons_succ] at e0 e1
                refine bodyPost_ret (v := .tuple #[.agg #[.slice ma' ml mc', .slice (some ⟨g, 0, none⟩) cl cc'], .int .i64 0]) (by simp [results, Tryz.results31, go_sem, e0, e1]) rfl ⟨_, _, by rw [HGR2.out], by rw [HGR2.out, ← HEND.out]; exact hre, BE.frm⟩
              | false =>
                as_aux_lemma =>
                have HEND : Hid (acc ++ [s] = insL id s s xs) := hid (by have := HIS.out; rw [← HXL.out] at this; exact this.endN)
                clear hO HIS
                go_upto_region 22 with (at_builtin; refine wpList_push _ rfl (.tmp 82) (.tmp 84) 51 rfl WA.heap.size 9 s0 _ 1 16 Tryz.underlying51 si sz0 sz1 sz2 rfl (.slice lo al lc) (al) (rows strV acc) rfl HOWN.out (strV s) rfl rfl (strS.one _) (by omega) (by omega) hsz ?_; intro v4 w4 hown4 hfr4 hv4 hz4; have hF4 := frm_own HF.out hfr4 (fun k hk => (HOWN.out.lt k hk).1); obtain ⟨lo4, lc4, rfl⟩ := ownsRow_shape hown4)
                have hO4 := HO.out.no hF4
                obtain ⟨q2z, q2f⟩ := HQ2.out _ hF4
                have hrd := OutI.rdS (p := p) (l := acc ++ [s]) (lo := lo4) (lc := lc4) (b2 := WA.heap.size) (by rw [hcl']; exact hO4) (by rw [hcl']; exact hpl) (by rw [List.length_append, HAL.out, ← rows_snoc]; exact hown4) hgW
                simp only [HXE.out, hcl', HAL.out, List.length_append, List.length_singleton] at hrd
                obtain ⟨hr9, BA9, BC9⟩ := hrd
                have d00 := hO4.box.cell
                have d0 := BC9.cell
                have d1 := BA9.cell
                have d1f := BA9.fr
                have HR9 := hid hr9
                have HB9 := hid BA9
                clear hO4 hr9 BA9 BC9
                go_wp2_with fail
                obtain ⟨BE, hre⟩ := end_A HB9.out nil3 nil3 HR9.out
                have e0 := BE.cell 0
                have e1 := BE.cell 1
                simp only [List.getElem?_cons_zero, List.getElem?_cons_succ] at e0 e1
                refine bodyPost_ret (v := .tuple #[.agg #[.slice ma' ml mc', .slice (some ⟨g, 0, none⟩) cl cc'], .int .i64 0]) (by simp [results, Tryz.results31, go_sem, e0, e1]) rfl ⟨_, _, by rw [HGR2.out], by rw [HGR2.out, ← HEND.out]; exact hre, BE.frm⟩
end Go.Proofs.YtofcmghhmklmiaaGreat

namespace Go.Proofs.YtofcmghhmklmiaaGreat
open Go.RowKit
open Roll
set_option maxRecDepth 100000 in
set_option maxHeartbeats 8000000 in
theorem repart_any (R : Rl) (mv cv : Value) (c s : B) (w : World) (hr : RlR w mv cv R) (hI : Inv R) :
    Calls Tryz.prog 32 #[.agg #[mv, cv], .string ⟨c.toArray⟩, .string ⟨s.toArray⟩] w (DeedP w (Roll.part R c s)) := by
  obtain ⟨s0, si, sz0, sz1, sz2⟩ := info_parts info_str
  have HRR := hid (fun w1 (hf : Frm No w w1) => hr.no hf)
  have hml := hI.ml
  have hcl := hI.cl
  have HK := hid (fun w1 (hf : Frm No w w1) => rof_any R mv cv c w1 (hr.no hf) hI)
  have HC := hid (fun w1 (hf : Frm No w w1) => rcopy_any R mv cv [] w1 (hr.no hf) hI)
  obtain ⟨mao, mcp, rfl⟩ := hr.mr.shape
  obtain ⟨cs, hfs, hc, -⟩ := hr.cr
  have hcsl : cs.length = R.clss.length := by rw [← hfs]; simp
  have HCR := hid (fun w1 (hf : Frm No w w1) => hc.frm (fun _ _ => rfl) hf (fun _ _ h => h))
  have HFS := hid hfs
  obtain ⟨cao, ccp, rfl⟩ := hc.shape
  obtain ⟨ml, hmle⟩ : ∃ ml, R.mems.length = ml := ⟨_, rfl⟩
  obtain ⟨cl, hcle⟩ : ∃ cl, cs.length = cl := ⟨_, rfl⟩
  have HML := hid hmle
  have HCL := hid hcle
  have HCR2 : Hid (R.clss.length = cl) := hid (by omega)
  have HDL : Hid (∀ x y : B, (x == y) = decide (x = y)) := hid (fun x y => by rw [Bool.eq_iff_iff]; simp)
  have HI := hid hI
  rw [← hcsl, hcle] at hcl
  rw [hmle] at hml ⊢
  rw [hcle] at ⊢
  simp only [hmle, hcle] at HK HC HRR
  clear hr hc hfs hcsl hmle hcle hI
  cases h1 : has Cls.name R.clss c with
  | false =>
    as_aux_lemma =>
    have he : Roll.part R c s = (Roll.nil, 10) := by unfold Roll.part; rw [find_none.2 h1]
    rw [ofB_no h1] at HK
    rw [he]
    clear he h1 HC HI HML HCR HFS HCL HCR2 HRR
    go_enter Tryz.func32, Tryz.ntmps32
    go_upto_region 1 with fail
    have X0 := Box.new (Frm.refl No w) [.slice mao ml mcp, .slice cao cl ccp] 31
    have X1 := Box.new X0.frm [.slice none 0 0, .slice none 0 0] 31
    have Y0 := X0.no ((Frm.refl No _).alloc (.cells #[.slice none 0 0, .slice none 0 0] 31))
    simp only [World.size_alloc] at X1
    obtain ⟨W, hW⟩ : ∃ W, W = (w.alloc (.cells #[.slice mao ml mcp, .slice cao cl ccp] 31)).alloc (.cells #[.slice none 0 0, .slice none 0 0] 31) := ⟨_, rfl⟩
    rw [← hW] at X1 Y0 ⊢
    clear hW
    obtain ⟨b, hb⟩ : ∃ b, w.heap.size = b := ⟨_, rfl⟩
    rw [hb] at X1 Y0
    simp only [hb]
    have F1 := X1.frm
    have HX1 := hid X1
    have HY0 := hid Y0
    have cW := Y0.cell
    clear X0 X1 Y0
    go_wp2_with (go_at_call 15; refine (HK.out _ F1).mono ?_; rintro e w1 ⟨rfl, hfw1⟩; have BX := HX1.out.no hfw1; have BY := HY0.out.no hfw1; have cXw1 := BX.cell; have fXw1 := BX.fr; have cYw1 := BY.cell)
    have BX4 := (BX.set 0 (by simp) (.slice none 0 0)).set 1 (by simp) (.slice none 0 0)
    have e0 := BX4.cell 0
    have e1 := BX4.cell 1
    simp only [List.set_cons_zero, List.set_cons_succ, List.getElem?_cons_zero, List.getElem?_cons_succ] at e0 e1
    refine bodyPost_ret (v := .tuple #[.agg #[.slice none 0 0, .slice none 0 0], .int .i64 10]) (by simp [results, Tryz.results32, go_sem, e0, e1]) rfl ⟨_, _, rfl, nil_rd _, BX4.frm⟩
  | true =>
    obtain ⟨hpl, hfd⟩ := find_at HI.out.cs h1
    have HH1 := hid h1
    rw [ofB_yes h1] at HK
    clear h1
    obtain ⟨p, hpe⟩ : ∃ p, place Cls.name R.clss c = p := ⟨_, rfl⟩
    have HPE := hid hpe
    have hfd0 : ∀ h : p < R.clss.length, find Cls.name R.clss c = some (R.clss[p]'h) := by subst hpe; exact fun _ => hfd
    clear hfd
    simp only [hpe] at HK hpl
    have HFD := hid (hfd0 hpl)
    clear hfd0
    rw [HCR2.out] at hpl
    have hp0 : ¬ (p : Int) < 0 := by omega
    have hpz : (p : Int) < (cl : Int) := by omega
    clear hpe
    have HCC := hid (fun w1 (hf : Frm No w w1) => (HRR.out w1 hf).cls (p := p) (by rw [HCR2.out]; exact hpl))
    have hsl : (R.clss[p]'(by rw [HCR2.out]; exact hpl)).students.length ≤ 256 := HI.out.students (List.getElem_mem _)
    obtain ⟨g0, o0, c0, xo0, xc0, hcv, k0, k1, k2, kr, kg⟩ := HCC.out w (Frm.refl No w)
    rw [HCR2.out] at hcv
    simp only [Value.slice.injEq, true_and] at hcv
    obtain ⟨rfl, rfl⟩ := hcv
    obtain ⟨X, hX⟩ : ∃ X, R.clss[p]'(by rw [HCR2.out]; exact hpl) = X := ⟨_, rfl⟩
    have HXX := hid hX
    simp only [hX] at k2 kr hsl HFD
    have HK2 := hid (fun w1 (hf : Frm No w w1) => (hf.cell (p := ⟨g0, o0 + p * 3 + 2, none⟩) kg (fun h => h)).trans k2)
    have HIN := hid (fun w1 (hf : Frm No w w1) => rin_any X.students _ s w1 (kr.frm (fun _ _ => rfl) hf (fun _ _ h => h)) (by omega))
    have hxl0 := hsl
    clear k0 k1 k2 kr hX HCC hsl
    cases h5 : has id X.students s with
    | false =>
      as_aux_lemma =>
      have he : Roll.part R c s = (Roll.nil, 10) := by unfold Roll.part; rw [HFD.out]; dsimp only; rw [if_pos h5]
      rw [he]
      rw [h5] at HIN
      clear he h5 HC HI HML HCR HFS HCL HRR HFD HXX
      generalize X.students.length = xl0 at *
      go_enter Tryz.func32, Tryz.ntmps32
      go_upto_region 1 with fail
      have X0 := Box.new (Frm.refl No w) [.slice mao ml mcp, .slice (some ⟨g0, o0, none⟩) cl ccp] 31
      have X1 := Box.new X0.frm [.slice none 0 0, .slice none 0 0] 31
      have Y0 := X0.no ((Frm.refl No _).alloc (.cells #[.slice none 0 0, .slice none 0 0] 31))
      simp only [World.size_alloc] at X1
      obtain ⟨W, hW⟩ : ∃ W, W = (w.alloc (.cells #[.slice mao ml mcp, .slice (some ⟨g0, o0, none⟩) cl ccp] 31)).alloc (.cells #[.slice none 0 0, .slice none 0 0] 31) := ⟨_, rfl⟩
      rw [← hW] at X1 Y0 ⊢
      clear hW
      obtain ⟨b, hb⟩ : ∃ b, w.heap.size = b := ⟨_, rfl⟩
      rw [hb] at X1 Y0
      simp only [hb]
      have F1 := X1.frm
      have HX1 := hid X1
      have HY0 := hid Y0
      have cW := Y0.cell
      clear X0 X1 Y0
      go_wp2_with (first | (go_at_call 15; refine (HK.out _ F1).mono ?_; rintro e w1 ⟨rfl, hfw1⟩; have BX := HX1.out.no hfw1; have BY := HY0.out.no hfw1; have cXw1 := BX.cell; have fXw1 := BX.fr; have kk2 := HK2.out _ BY.frm; have cYw1 := BY.cell) | (go_at_call 16; refine (HIN.out _ BY.frm).mono ?_; rintro e w3 ⟨rfl, rfl⟩))
      have BX4 := (BX.set 0 (by simp) (.slice none 0 0)).set 1 (by simp) (.slice none 0 0)
      have e0 := BX4.cell 0
      have e1 := BX4.cell 1
      simp only [List.set_cons_zero, List.set_cons_succ, List.getElem?_cons_zero, List.getElem?_cons_succ] at e0 e1
      refine bodyPost_ret (v := .tuple #[.agg #[.slice none 0 0, .slice none 0 0], .int .i64 10]) (by simp [results, Tryz.results32, go_sem, e0, e1]) rfl ⟨_, _, rfl, nil_rd _, BX4.frm⟩
    | true =>
      as_aux_lemma =>
      have HGR := hid (part_ok HI.out HH1.out (by rw [HPE.out, HCR2.out]; exact hpl) (by simp only [HPE.out, HXX.out]; exact h5))
      simp only [HPE.out] at HGR
      rw [h5] at HIN
      clear h5
      generalize X.students.length = xl0 at *
      go_enter Tryz.func32, Tryz.ntmps32
      go_upto_region 1 with fail
      have X0 := Box.new (Frm.refl No w) [.slice mao ml mcp, .slice (some ⟨g0, o0, none⟩) cl ccp] 31
      have X1 := Box.new X0.frm [.slice none 0 0, .slice none 0 0] 31
      have Y0 := X0.no ((Frm.refl No _).alloc (.cells #[.slice none 0 0, .slice none 0 0] 31))
      simp only [World.size_alloc] at X1
      obtain ⟨W, hW⟩ : ∃ W, W = (w.alloc (.cells #[.slice mao ml mcp, .slice (some ⟨g0, o0, none⟩) cl ccp] 31)).alloc (.cells #[.slice none 0 0, .slice none 0 0] 31) := ⟨_, rfl⟩
      rw [← hW] at X1 Y0 ⊢
      clear hW
      obtain ⟨b, hb⟩ : ∃ b, w.heap.size = b := ⟨_, rfl⟩
      rw [hb] at X1 Y0
      simp only [hb]
      have F1 := X1.frm
      have HX1 := hid X1
      have HY0 := hid Y0
      have cW := Y0.cell
      clear X0 X1 Y0
      go_upto_region 5 with (first | (go_at_call 15; refine (HK.out _ F1).mono ?_; rintro e w1 ⟨rfl, hfw1⟩; have BX := HX1.out.no hfw1; have BY := HY0.out.no hfw1; have cXw1 := BX.cell; have fXw1 := BX.fr; have kk2 := HK2.out _ BY.frm; have cYw1 := BY.cell) | (go_at_call 16; refine (HIN.out _ BY.frm).mono ?_; rintro e w3 ⟨rfl, rfl⟩) | (go_at_call 67; refine (HC.out _ BY.frm).mono ?_; rintro e wc hcp; obtain ⟨ma', mc', ca', cc', cs', rfl, ho, hfc, hcl'⟩ := hcp.all' HML.out HCR2.out; have BA := BX.no hfc))
      have BA0 : w.heap.size ≤ w1.heap.size := BX.frm.size
      have hO := OutI.make 31 BA ho BX.lC BA0
      obtain ⟨WA, hWA⟩ : ∃ WA, WA = wc.alloc (.cells #[.slice ma' ml mc', .slice ca' cl cc'] 31) := ⟨_, rfl⟩
      rw [← hWA] at hO ⊢
      clear hWA
      obtain ⟨C, hC⟩ : ∃ C, wc.heap.size = C := ⟨_, rfl⟩
      rw [hC] at hO
      (try simp only [hC])
      have HO := hid hO
      clear hO BA BX BY cXw1 fXw1 cYw1 kk2 HX1 HY0 hfw1 F1 cW ho hfc HC HK HIN HK2 HRR kg hcp BA0 hxl0
      generalize w1.heap.size = base at *
      have hpc : p < cs'.length := by rw [hcl']; exact hpl
      have hco := HO.out.own.co
      have hci : cs'[p].1 = R.clss[p]'(by rw [HCR2.out]; exact hpl) := by
        have h1 := HO.out.own.fst
        simp only [← h1, List.getElem_map]
      have hsr := HO.out.own.rd
      have hst : RdL WA (sv cs'[p]) 1 strV cs'[p].1.students := rdl_own strS (HO.out.own.so _ (List.getElem_mem hpc))
      rw [hcl'] at hco
      obtain ⟨g, cap, hv2, hbg, hgl, hnc, hgc, hgf⟩ := own_at clsS (i := p) (by rw [← hcl'] at hco; rw [hcl'] at hco ⊢; exact hco) hpc
      rw [hcl'] at hv2
      simp only [Value.slice.injEq, true_and] at hv2
      obtain ⟨rfl, rfl⟩ := hv2
      have q2 := hgc 2 (by omega)
      have hgf2 := hgf (p * 3 + 2)
      simp only [clsV, List.getElem?_cons_zero, List.getElem?_cons_succ] at q2
      have HNM : Hid ((⟨cs'[p].1.name, cs'[p].1.teacher, cs'[p].1.students⟩ : Cls) = R.clss[p]'(by rw [HCR2.out]; exact hpl)) := hid hci
      obtain ⟨⟨⟨xn, xt, xs⟩, xo, xc⟩, hxe⟩ : ∃ x, cs'[p] = x := ⟨_, rfl⟩
      have HXE : Hid (∀ h : p < cs'.length, cs'[p]'h = (⟨xn, xt, xs⟩, xo, xc)) := hid (fun _ => hxe)
      simp only [hxe] at q2 hst HNM
      dsimp only [sv] at hst
      have hxl : xs.length ≤ 256 := by
        have := HI.out.students (List.getElem_mem (l := R.clss) (n := p) (by rw [HCR2.out]; exact hpl))
        rw [← HNM.out] at this
        exact this
      have HST := hid hst
      obtain ⟨xl, hxle⟩ : ∃ xl, xs.length = xl := ⟨_, rfl⟩
      have HXL := hid hxle
      rw [hxle] at q2 hxl
      have hgW : g < WA.heap.size := hgl
      have c0 := HO.out.box.cell
      clear hco hci hsr hst hgc hgf hxe hxle hbg hnc hgl
      have HGR2 : Hid (Roll.part R c s = (⟨R.mems, R.clss.set p ⟨xn, xt, xs.filter fun x => !decide (x = s)⟩⟩, 0)) := hid (by rw [HGR.out, ← HNM.out])
      clear HGR HXX HFD
      go_wp2_with fail
      go_loopw [10, 12] (fun lv iv wr => ∃ (i : Nat) (acc : List B), i ≤ xl ∧ iv = .int .i64 (i : Int) ∧ acc = (xs.take i).filter (fun x => !decide (x = s)) ∧ acc.length ≤ i ∧ wr.ownsRow WA.heap.size 9 1 lv acc.length (rows strV acc) ∧ Frm No WA wr)
        (fun _ iv _ => xl - (intOf iv).toNat)
      case atStart => exact ⟨0, [], by omega, rfl, rfl, by simp, World.ownsRow_nil _ _ _ _, Frm.refl _ _⟩
      case round =>
        obtain ⟨i, acc, hi, rfl, hIs, hal2, hown, hf⟩ := hrel
        have hO := HO.out.no hf
        obtain ⟨lo, lc, rfl⟩ := ownsRow_shape hown
        obtain ⟨al, hal⟩ : ∃ al, acc.length = al := ⟨_, rfl⟩
        rw [hal] at hal2
        have HAL := hid hal
        rw [hal] at hown ⊢
        have HOWN := hid hown
        have HF := hid hf
        have HIS := hid hIs
        have hsz := hf.size
        have HOR := hid hO
        have HQ2 : Hid (∀ w', Frm No WA w' → w'.cell? ⟨g, p * 3 + 2, none⟩ = some (.slice xo xl xc) ∧ w'.frozen? ⟨g, p * 3 + 2, none⟩ = false) := hid (fun w' hf => ⟨(hf.cell (p := ⟨g, p * 3 + 2, none⟩) hgW (fun h => h)).trans q2, (hf.frozen (p := ⟨g, p * 3 + 2, none⟩) hgW (fun h => h)).trans hgf2⟩)
        have c0 := hO.box.cell
        clear hIs hown hal hf
        by_cases hil : i < xl
        · as_aux_lemma =>
          have hilz : (i : Int) < (xl : Int) := by omega
          have hi2 : i < xs.length := by rw [HXL.out]; exact hil
          have hsr : RdL wr (.slice xo xs.length xc) 1 strV xs := HST.out.frm (fun _ _ => rfl) HF.out (fun _ _ h => h)
          obtain ⟨g2, o2, rfl, hcc⟩ := hsr.at_ (by omega)
          have r0 := hcc i hi2 0 (by omega)
          have HTK := hid (filter_take (fun x => !decide (x = s)) hi2)
          obtain ⟨sx, hsx⟩ : ∃ sx, xs[i] = sx := ⟨_, rfl⟩
          simp only [hsx] at r0 HTK
          simp only [strV, List.getElem?_cons_zero, Nat.mul_one, Nat.add_zero] at r0
          clear hsr hcc hsx hO HO HOR c0
          by_cases he : sx = s
          · as_aux_lemma =>
            have heb : (sx == s) = true := by rw [HDL.out]; exact decide_eq_true he
            have HNX : Hid (acc = (xs.take (i + 1)).filter (fun x => !decide (x = s))) := hid (by rw [HTK.out, ← HIS.out, if_neg (by rw [decide_eq_true he]; decide), List.append_nil])
            clear he HTK HIS
            go_wp2_with fail
            exact ⟨⟨i + 1, acc, by omega, by go_num, HNX.out, by rw [HAL.out]; omega, by rw [HAL.out]; exact HOWN.out, HF.out⟩, by simp only [intOf]; omega⟩
          · as_aux_lemma =>
            have heb : (sx == s) = false := by rw [HDL.out]; exact decide_eq_false he
            have HNX : Hid (acc ++ [sx] = (xs.take (i + 1)).filter (fun x => !decide (x = s))) := hid (by rw [HTK.out, ← HIS.out, if_pos (by rw [decide_eq_false he]; decide)])
            clear he HTK HIS
            go_wp2_with (at_builtin; refine wpList_push _ rfl (.tmp 50) (.tmp 55) 51 rfl WA.heap.size 9 s0 _ 1 16 Tryz.underlying51 si sz0 sz1 sz2 rfl (.slice lo al lc) (al) (rows strV acc) rfl HOWN.out (strV sx) rfl rfl (strS.one _) (by omega) (by omega) hsz ?_; intro v4 w4 hown4 hfr4 hv4 hz4)
            have hF4 := frm_own HF.out hfr4 (fun k hk => (HOWN.out.lt k hk).1)
            exact ⟨⟨i + 1, _, by omega, by go_num, HNX.out, by rw [List.length_append, HAL.out]; simp; omega, by rw [List.length_append, HAL.out, ← rows_snoc]; exact hown4, hF4⟩, by simp only [intOf]; omega⟩
        · as_aux_lemma =>
          obtain rfl : i = xl := by omega
          have hilz : ¬ (i : Int) < (i : Int) := by omega
          have HEND : Hid (acc = xs.filter (fun x => !decide (x = s))) := hid (by have := HIS.out; rw [← HXL.out, List.take_length] at this; exact this)
          obtain ⟨q2z, q2f⟩ := HQ2.out _ HF.out
          have hrd := OutI.rdS (p := p) (l := acc) (lo := lo) (lc := lc) (b2 := WA.heap.size) (by rw [hcl']; exact HOR.out) (by rw [hcl']; exact hpl) (by rw [HAL.out]; exact HOWN.out) hgW
          simp only [HXE.out, hcl', HAL.out] at hrd
          obtain ⟨hr9, BA9, BC9⟩ := hrd
          have d0 := BC9.cell
          have d1 := BA9.cell
          have d1f := BA9.fr
          have HR9 := hid hr9
          have HB9 := hid BA9
          clear hO hr9 BA9 BC9 HIS
          go_wp2_with fail
          obtain ⟨BE, hre⟩ := end_A HB9.out nil3 nil3 HR9.out
          have e0 := BE.cell 0
          have e1 := BE.cell 1
          simp only [List.getElem?_cons_zero, List.getElem?_cons_succ] at e0 e1
          refine bodyPost_ret (v := .tuple #[.agg #[.slice ma' ml mc', .slice (some ⟨g, 0, none⟩) cl cc'], .int .i64 0]) (by simp [results, Tryz.results32, go_sem, e0, e1]) rfl ⟨_, _, by rw [HGR2.out], by rw [HGR2.out, ← HEND.out]; exact hre, BE.frm⟩
end Go.Proofs.YtofcmghhmklmiaaGreat
