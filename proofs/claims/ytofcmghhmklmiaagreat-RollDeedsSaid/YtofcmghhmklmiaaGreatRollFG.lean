/- Open. Printed by a program (rollf.py). Where a name stands in a sorted list of names; whether it is there. -/
import Derived.Test.YtofcmghhmklmiaaGreatRollE
import Derived.Test.YtofcmghhmklmiaaGreatRollD
namespace Go.Proofs.YtofcmghhmklmiaaGreat
open Go.RowKit
open Roll

theorem dj_insert {cs : List CV} (h : cs.Pairwise fun p q => Dj (sv p) (sv q)) (i : Nat) (x : CV) (hx : ∀ k, (sv x).ownBlock ≠ some k) : (cs.take i ++ x :: cs.drop i).Pairwise fun p q => Dj (sv p) (sv q) := by
  have h' := h
  rw [← List.take_append_drop i cs, List.pairwise_append] at h'
  refine List.pairwise_append.2 ⟨h'.1, List.pairwise_cons.2 ⟨fun q _ k hk => absurd hk (hx k), h'.2.1⟩, fun a ha b hb => ?_⟩
  rcases List.mem_cons.1 hb with rfl | hb
  · exact fun k _ e => hx k e
  · exact h'.2.2 a ha b hb
set_option maxRecDepth 100000 in
set_option maxHeartbeats 4000000 in
theorem ropen_any (R : Rl) (mv cv : Value) (c t : B) (w : World) (hr : RlR w mv cv R) (hI : Inv R) (hn : c.length ≤ 9223372036854775807) :
    Calls Tryz.prog 19 #[.agg #[mv, cv], .string ⟨c.toArray⟩, .string ⟨t.toArray⟩] w (DeedP w (open_ R c t)) := by
  have HK := hid (fun w1 (hf : Frm No w w1) => class_any R mv cv c w1 (hr.no hf) hI.cs (by have := hI.cl; omega))
  have HM := hid (fun w1 (hf : Frm No w w1) => rmember_any R mv cv t w1 (hr.no hf) hI.ms (by have := hI.ml; omega))
  have HG := hid (fun w1 => good_any c w1 hn)
  have HC := hid (fun w1 (hf : Frm No w w1) => rclone_inv (hr.no hf) hI)
  have hml := hI.ml
  have hcl := hI.cl
  obtain ⟨mao, mcp, rfl⟩ := hr.mr.shape
  obtain ⟨cs, hfs, hc, -⟩ := hr.cr
  have hcsl : cs.length = R.clss.length := by rw [← hfs]; simp
  obtain ⟨cao, ccp, rfl⟩ := hc.shape
  rw [hcsl] at HK HM HC ⊢
  obtain ⟨ml, hmle⟩ : ∃ ml, R.mems.length = ml := ⟨_, rfl⟩
  rw [hmle] at hml HK HM HC ⊢
  obtain ⟨cl, hcle⟩ : ∃ cl, R.clss.length = cl := ⟨_, rfl⟩
  rw [hcle] at hcl HK HM HC ⊢
  have hp := @place_le _ Cls.name R.clss c
  rw [hcle] at hp
  have HCLE := hid hcle
  have HMLE := hid hmle
  clear hr hc hfs hcle hmle hcsl
  by_cases h1 : Cmd.gn c = false
  · as_aux_lemma =>
    have he : open_ R c t = (Roll.nil, 8) := by unfold open_; rw [if_pos h1]
    rw [h1] at HG
    rw [he]
    clear he h1 HC hI HMLE HCLE
    generalize place Cls.name R.clss c = p at *
    generalize has Cls.name R.clss c = q at *
    generalize (find Mem.name R.mems t).isSome = fs at *
    generalize (find Mem.name R.mems t).getD memZ = fm at *
    obtain ⟨nm, ro, qu⟩ := fm
    simp only [mag] at HM
    go_enter Tryz.func19, Tryz.ntmps19
    go_upto_region 1 with fail
    have X0 := Box.new (Frm.refl No w) [.slice mao ml mcp, .slice cao cl ccp] 27
    have X1 := Box.new X0.frm [.slice none 0 0, .slice none 0 0] 27
    have Y0 := X0.no ((Frm.refl No _).alloc (.cells #[.slice none 0 0, .slice none 0 0] 27))
    simp only [World.size_alloc] at X1
    obtain ⟨W, hW⟩ : ∃ W, W = (w.alloc (.cells #[.slice mao ml mcp, .slice cao cl ccp] 27)).alloc (.cells #[.slice none 0 0, .slice none 0 0] 27) := ⟨_, rfl⟩
    rw [← hW] at X1 Y0 ⊢
    clear hW
    obtain ⟨b, hb⟩ : ∃ b, w.heap.size = b := ⟨_, rfl⟩
    rw [hb] at X1 Y0
    simp only [hb]
    have F1 := X1.frm
    have HX1 := hid X1
    have HY0 := hid Y0
    have cW := Y0.cell
    clear X0 X1 Y0
    go_wp2_with (first | (go_at_call 49; refine (HK.out _ F1).mono ?_; rintro e w1 ⟨rfl, hf1⟩; have BX := HX1.out.no hf1; have BY := HY0.out.no hf1; have cY := BY.cell) | (go_at_call 12; refine (HM.out _ BY.frm).mono ?_; rintro e w2 ⟨rfl, hf2⟩; have BX3 := (BX.no hf2).no ((Frm.refl No w2).alloc (.cells #[.string ⟨nm.toArray⟩, .int .i64 ro, .int .i64 qu] 45)); have BY3 := (BY.no hf2).no ((Frm.refl No w2).alloc (.cells #[.string ⟨nm.toArray⟩, .int .i64 ro, .int .i64 qu] 45)); have cX := BX3.cell; have fX := BX3.fr; have cZ := BY3.cell) | (go_at_call 54; refine (HG.out _).mono ?_; rintro e w3 ⟨rfl, rfl⟩))
    have BX4 := (BX3.set 0 (by simp) (.slice none 0 0)).set 1 (by simp) (.slice none 0 0)
    have e0 := BX4.cell 0
    have e1 := BX4.cell 1
    simp only [List.set_cons_zero, List.set_cons_succ, List.getElem?_cons_zero, List.getElem?_cons_succ] at e0 e1
    refine bodyPost_ret (v := .tuple #[.agg #[.slice none 0 0, .slice none 0 0], .int .i64 8]) (by simp [results, Tryz.results19, go_sem, e0, e1]) rfl ⟨_, _, rfl, nil_rd _, BX4.frm⟩
  by_cases h2 : has Cls.name R.clss c = true
  · as_aux_lemma =>
    have he : open_ R c t = (Roll.nil, 9) := by unfold open_; rw [if_neg h1, if_pos h2]
    rw [Bool.not_eq_false] at h1
    rw [h1] at HG
    rw [h2] at HK
    rw [he]
    clear he h1 h2 HC hI HMLE HCLE
    generalize place Cls.name R.clss c = p at *
    generalize (find Mem.name R.mems t).isSome = fs at *
    generalize (find Mem.name R.mems t).getD memZ = fm at *
    obtain ⟨nm, ro, qu⟩ := fm
    simp only [mag] at HM
    go_enter Tryz.func19, Tryz.ntmps19
    go_upto_region 1 with fail
    have X0 := Box.new (Frm.refl No w) [.slice mao ml mcp, .slice cao cl ccp] 27
    have X1 := Box.new X0.frm [.slice none 0 0, .slice none 0 0] 27
    have Y0 := X0.no ((Frm.refl No _).alloc (.cells #[.slice none 0 0, .slice none 0 0] 27))
    simp only [World.size_alloc] at X1
    obtain ⟨W, hW⟩ : ∃ W, W = (w.alloc (.cells #[.slice mao ml mcp, .slice cao cl ccp] 27)).alloc (.cells #[.slice none 0 0, .slice none 0 0] 27) := ⟨_, rfl⟩
    rw [← hW] at X1 Y0 ⊢
    clear hW
    obtain ⟨b, hb⟩ : ∃ b, w.heap.size = b := ⟨_, rfl⟩
    rw [hb] at X1 Y0
    simp only [hb]
    have F1 := X1.frm
    have HX1 := hid X1
    have HY0 := hid Y0
    have cW := Y0.cell
    clear X0 X1 Y0
    go_wp2_with (first | (go_at_call 49; refine (HK.out _ F1).mono ?_; rintro e w1 ⟨rfl, hf1⟩; have BX := HX1.out.no hf1; have BY := HY0.out.no hf1; have cY := BY.cell) | (go_at_call 12; refine (HM.out _ BY.frm).mono ?_; rintro e w2 ⟨rfl, hf2⟩; have BX3 := (BX.no hf2).no ((Frm.refl No w2).alloc (.cells #[.string ⟨nm.toArray⟩, .int .i64 ro, .int .i64 qu] 45)); have BY3 := (BY.no hf2).no ((Frm.refl No w2).alloc (.cells #[.string ⟨nm.toArray⟩, .int .i64 ro, .int .i64 qu] 45)); have cX := BX3.cell; have fX := BX3.fr; have cZ := BY3.cell) | (go_at_call 54; refine (HG.out _).mono ?_; rintro e w3 ⟨rfl, rfl⟩))
    have BX4 := (BX3.set 0 (by simp) (.slice none 0 0)).set 1 (by simp) (.slice none 0 0)
    have e0 := BX4.cell 0
    have e1 := BX4.cell 1
    simp only [List.set_cons_zero, List.set_cons_succ, List.getElem?_cons_zero, List.getElem?_cons_succ] at e0 e1
    refine bodyPost_ret (v := .tuple #[.agg #[.slice none 0 0, .slice none 0 0], .int .i64 9]) (by simp [results, Tryz.results19, go_sem, e0, e1]) rfl ⟨_, _, rfl, nil_rd _, BX4.frm⟩
  cases h3 : find Mem.name R.mems t with
  | none =>
    as_aux_lemma =>
    have he : open_ R c t = (Roll.nil, 10) := by unfold open_; rw [if_neg h1, if_neg h2, h3]
    rw [Bool.not_eq_false] at h1
    rw [Bool.not_eq_true] at h2
    rw [h1] at HG
    rw [h2] at HK
    simp only [h3, Option.isSome_none, Option.getD_none] at HM
    rw [he]
    clear he h1 h2 h3 HC hI HMLE HCLE
    generalize place Cls.name R.clss c = p at *
    generalize memZ = fm at *
    obtain ⟨nm, ro, qu⟩ := fm
    simp only [mag] at HM
    go_enter Tryz.func19, Tryz.ntmps19
    go_upto_region 1 with fail
    have X0 := Box.new (Frm.refl No w) [.slice mao ml mcp, .slice cao cl ccp] 27
    have X1 := Box.new X0.frm [.slice none 0 0, .slice none 0 0] 27
    have Y0 := X0.no ((Frm.refl No _).alloc (.cells #[.slice none 0 0, .slice none 0 0] 27))
    simp only [World.size_alloc] at X1
    obtain ⟨W, hW⟩ : ∃ W, W = (w.alloc (.cells #[.slice mao ml mcp, .slice cao cl ccp] 27)).alloc (.cells #[.slice none 0 0, .slice none 0 0] 27) := ⟨_, rfl⟩
    rw [← hW] at X1 Y0 ⊢
    clear hW
    obtain ⟨b, hb⟩ : ∃ b, w.heap.size = b := ⟨_, rfl⟩
    rw [hb] at X1 Y0
    simp only [hb]
    have F1 := X1.frm
    have HX1 := hid X1
    have HY0 := hid Y0
    have cW := Y0.cell
    clear X0 X1 Y0
    go_wp2_with (first | (go_at_call 49; refine (HK.out _ F1).mono ?_; rintro e w1 ⟨rfl, hf1⟩; have BX := HX1.out.no hf1; have BY := HY0.out.no hf1; have cY := BY.cell) | (go_at_call 12; refine (HM.out _ BY.frm).mono ?_; rintro e w2 ⟨rfl, hf2⟩; have BX3 := (BX.no hf2).no ((Frm.refl No w2).alloc (.cells #[.string ⟨nm.toArray⟩, .int .i64 ro, .int .i64 qu] 45)); have BY3 := (BY.no hf2).no ((Frm.refl No w2).alloc (.cells #[.string ⟨nm.toArray⟩, .int .i64 ro, .int .i64 qu] 45)); have cX := BX3.cell; have fX := BX3.fr; have cZ := BY3.cell) | (go_at_call 54; refine (HG.out _).mono ?_; rintro e w3 ⟨rfl, rfl⟩))
    have BX4 := (BX3.set 0 (by simp) (.slice none 0 0)).set 1 (by simp) (.slice none 0 0)
    have e0 := BX4.cell 0
    have e1 := BX4.cell 1
    simp only [List.set_cons_zero, List.set_cons_succ, List.getElem?_cons_zero, List.getElem?_cons_succ] at e0 e1
    refine bodyPost_ret (v := .tuple #[.agg #[.slice none 0 0, .slice none 0 0], .int .i64 10]) (by simp [results, Tryz.results19, go_sem, e0, e1]) rfl ⟨_, _, rfl, nil_rd _, BX4.frm⟩
  | some fm =>
    simp only [h3, Option.isSome_some, Option.getD_some] at HM
    by_cases h4 : fm.role ≠ 2
    · as_aux_lemma =>
      have he : open_ R c t = (Roll.nil, 13) := by unfold open_; rw [if_neg h1, if_neg h2, h3]; dsimp only; rw [if_pos h4]
      rw [Bool.not_eq_false] at h1
      rw [Bool.not_eq_true] at h2
      rw [h1] at HG
      rw [h2] at HK
      rw [he]
      clear he h1 h2 h3 HC hI HMLE HCLE
      generalize place Cls.name R.clss c = p at *
      obtain ⟨nm, ro, qu⟩ := fm
      simp only [mag] at HM
      have h4a : (ro == 2) = false := by simpa using h4
      have h4b : (ro != 2) = true := by simpa using h4
      clear h4
      go_enter Tryz.func19, Tryz.ntmps19
      go_upto_region 1 with fail
      have X0 := Box.new (Frm.refl No w) [.slice mao ml mcp, .slice cao cl ccp] 27
      have X1 := Box.new X0.frm [.slice none 0 0, .slice none 0 0] 27
      have Y0 := X0.no ((Frm.refl No _).alloc (.cells #[.slice none 0 0, .slice none 0 0] 27))
      simp only [World.size_alloc] at X1
      obtain ⟨W, hW⟩ : ∃ W, W = (w.alloc (.cells #[.slice mao ml mcp, .slice cao cl ccp] 27)).alloc (.cells #[.slice none 0 0, .slice none 0 0] 27) := ⟨_, rfl⟩
      rw [← hW] at X1 Y0 ⊢
      clear hW
      obtain ⟨b, hb⟩ : ∃ b, w.heap.size = b := ⟨_, rfl⟩
      rw [hb] at X1 Y0
      simp only [hb]
      have F1 := X1.frm
      have HX1 := hid X1
      have HY0 := hid Y0
      have cW := Y0.cell
      clear X0 X1 Y0
      go_wp2_with (first | (go_at_call 49; refine (HK.out _ F1).mono ?_; rintro e w1 ⟨rfl, hf1⟩; have BX := HX1.out.no hf1; have BY := HY0.out.no hf1; have cY := BY.cell) | (go_at_call 12; refine (HM.out _ BY.frm).mono ?_; rintro e w2 ⟨rfl, hf2⟩; have BX3 := (BX.no hf2).no ((Frm.refl No w2).alloc (.cells #[.string ⟨nm.toArray⟩, .int .i64 ro, .int .i64 qu] 45)); have BY3 := (BY.no hf2).no ((Frm.refl No w2).alloc (.cells #[.string ⟨nm.toArray⟩, .int .i64 ro, .int .i64 qu] 45)); have cX := BX3.cell; have fX := BX3.fr; have cZ := BY3.cell) | (go_at_call 54; refine (HG.out _).mono ?_; rintro e w3 ⟨rfl, rfl⟩))
      have BX4 := (BX3.set 0 (by simp) (.slice none 0 0)).set 1 (by simp) (.slice none 0 0)
      have e0 := BX4.cell 0
      have e1 := BX4.cell 1
      simp only [List.set_cons_zero, List.set_cons_succ, List.getElem?_cons_zero, List.getElem?_cons_succ] at e0 e1
      refine bodyPost_ret (v := .tuple #[.agg #[.slice none 0 0, .slice none 0 0], .int .i64 13]) (by simp [results, Tryz.results19, go_sem, e0, e1]) rfl ⟨_, _, rfl, nil_rd _, BX4.frm⟩
    by_cases h5 : 32 ≤ cl
    · as_aux_lemma =>
      have he : open_ R c t = (Roll.nil, 12) := by unfold open_; rw [if_neg h1, if_neg h2, h3]; dsimp only; rw [if_neg h4, HCLE.out, if_pos h5]
      rw [Bool.not_eq_false] at h1
      rw [Bool.not_eq_true] at h2
      rw [h1] at HG
      rw [h2] at HK
      rw [he]
      clear he h1 h2 h3 HC hI HMLE HCLE
      generalize place Cls.name R.clss c = p at *
      obtain ⟨nm, ro, qu⟩ := fm
      simp only [mag] at HM
      obtain rfl : ro = 2 := by simpa using h4
      clear h4
      have h5z : (32 : Int) ≤ (cl : Int) := by omega
      go_enter Tryz.func19, Tryz.ntmps19
      go_upto_region 1 with fail
      have X0 := Box.new (Frm.refl No w) [.slice mao ml mcp, .slice cao cl ccp] 27
      have X1 := Box.new X0.frm [.slice none 0 0, .slice none 0 0] 27
      have Y0 := X0.no ((Frm.refl No _).alloc (.cells #[.slice none 0 0, .slice none 0 0] 27))
      simp only [World.size_alloc] at X1
      obtain ⟨W, hW⟩ : ∃ W, W = (w.alloc (.cells #[.slice mao ml mcp, .slice cao cl ccp] 27)).alloc (.cells #[.slice none 0 0, .slice none 0 0] 27) := ⟨_, rfl⟩
      rw [← hW] at X1 Y0 ⊢
      clear hW
      obtain ⟨b, hb⟩ : ∃ b, w.heap.size = b := ⟨_, rfl⟩
      rw [hb] at X1 Y0
      simp only [hb]
      have F1 := X1.frm
      have HX1 := hid X1
      have HY0 := hid Y0
      have cW := Y0.cell
      clear X0 X1 Y0
      go_wp2_with (first | (go_at_call 49; refine (HK.out _ F1).mono ?_; rintro e w1 ⟨rfl, hf1⟩; have BX := HX1.out.no hf1; have BY := HY0.out.no hf1; have cY := BY.cell) | (go_at_call 12; refine (HM.out _ BY.frm).mono ?_; rintro e w2 ⟨rfl, hf2⟩; have BX3 := (BX.no hf2).no ((Frm.refl No w2).alloc (.cells #[.string ⟨nm.toArray⟩, .int .i64 2, .int .i64 qu] 45)); have BY3 := (BY.no hf2).no ((Frm.refl No w2).alloc (.cells #[.string ⟨nm.toArray⟩, .int .i64 2, .int .i64 qu] 45)); have cX := BX3.cell; have fX := BX3.fr; have cZ := BY3.cell) | (go_at_call 54; refine (HG.out _).mono ?_; rintro e w3 ⟨rfl, rfl⟩))
      have BX4 := (BX3.set 0 (by simp) (.slice none 0 0)).set 1 (by simp) (.slice none 0 0)
      have e0 := BX4.cell 0
      have e1 := BX4.cell 1
      simp only [List.set_cons_zero, List.set_cons_succ, List.getElem?_cons_zero, List.getElem?_cons_succ] at e0 e1
      refine bodyPost_ret (v := .tuple #[.agg #[.slice none 0 0, .slice none 0 0], .int .i64 12]) (by simp [results, Tryz.results19, go_sem, e0, e1]) rfl ⟨_, _, rfl, nil_rd _, BX4.frm⟩
    as_aux_lemma =>
    have he : open_ R c t = (⟨R.mems, ins Cls.name R.clss c ⟨c, t, []⟩⟩, 0) := by unfold open_; rw [if_neg h1, if_neg h2, h3]; dsimp only; rw [if_neg h4, HCLE.out, if_neg h5]
    rw [Bool.not_eq_false] at h1
    rw [Bool.not_eq_true] at h2
    rw [h1] at HG
    rw [h2] at HK
    rw [he]
    have hI' := hid hI
    clear he h1 h2 h3 hI
    obtain ⟨p, hpe⟩ : ∃ p, place Cls.name R.clss c = p := ⟨_, rfl⟩
    simp only [hpe] at HK hp
    have HPE := hid hpe
    clear hpe
    obtain ⟨nm, ro, qu⟩ := fm
    simp only [mag] at HM
    obtain rfl : ro = 2 := by simpa using h4
    clear h4
    have h5z : ¬ (32 : Int) ≤ (cl : Int) := by omega
    go_enter Tryz.func19, Tryz.ntmps19
    go_upto_region 1 with fail
    have X0 := Box.new (Frm.refl No w) [.slice mao ml mcp, .slice cao cl ccp] 27
    have X1 := Box.new X0.frm [.slice none 0 0, .slice none 0 0] 27
    have Y0 := X0.no ((Frm.refl No _).alloc (.cells #[.slice none 0 0, .slice none 0 0] 27))
    simp only [World.size_alloc] at X1
    obtain ⟨W, hW⟩ : ∃ W, W = (w.alloc (.cells #[.slice mao ml mcp, .slice cao cl ccp] 27)).alloc (.cells #[.slice none 0 0, .slice none 0 0] 27) := ⟨_, rfl⟩
    rw [← hW] at X1 Y0 ⊢
    clear hW
    obtain ⟨b, hb⟩ : ∃ b, w.heap.size = b := ⟨_, rfl⟩
    rw [hb] at X1 Y0
    simp only [hb]
    have F1 := X1.frm
    have HX1 := hid X1
    have HY0 := hid Y0
    have cW := Y0.cell
    clear X0 X1 Y0
    go_upto_region 14 with (first | (go_at_call 49; refine (HK.out _ F1).mono ?_; rintro e w1 ⟨rfl, hf1⟩; have BX := HX1.out.no hf1; have BY := HY0.out.no hf1; have cY := BY.cell) | (go_at_call 12; refine (HM.out _ BY.frm).mono ?_; rintro e w2 ⟨rfl, hf2⟩; have BX3 := (BX.no hf2).no ((Frm.refl No w2).alloc (.cells #[.string ⟨nm.toArray⟩, .int .i64 2, .int .i64 qu] 45)); have BY3 := (BY.no hf2).no ((Frm.refl No w2).alloc (.cells #[.string ⟨nm.toArray⟩, .int .i64 2, .int .i64 qu] 45)); have cX := BX3.cell; have fX := BX3.fr; have cZ := BY3.cell) | (go_at_call 54; refine (HG.out _).mono ?_; rintro e w3 ⟨rfl, rfl⟩) | (go_at_call 55; refine (HC.out _ BY3.frm).mono ?_; rintro e w4 ⟨mv2, cv2, cs2, rfl, hO, hf4⟩; obtain ⟨mao2, mcp2, rfl⟩ := ownsRow_shape hO.mo; obtain ⟨cao2, ccp2, rfl⟩ := ownsRow_shape hO.co))
    have hmle := HMLE.out
    have HO := hid hO
    rw [hmle]
    have hc2 : cs2.length = cl := by have := congrArg List.length hO.fst; simp only [List.length_map] at this; rw [this]; exact HCLE.out
    rw [hc2]
    have BX2 := BX3.no hf4
    have X12 := Box.new BX2.frm [.slice mao2 ml mcp2, .slice cao2 cl ccp2] 27
    have BX5 := BX2.no ((Frm.refl No w4).alloc (.cells #[.slice mao2 ml mcp2, .slice cao2 cl ccp2] 27))
    have hOa := hO.no ((Frm.refl No w4).alloc (.cells #[.slice mao2 ml mcp2, .slice cao2 cl ccp2] 27))
    have hlt := hO.lt
    rw [hmle, hc2] at hOa hlt
    obtain ⟨WA, hWA⟩ : ∃ WA, WA = w4.alloc (.cells #[.slice mao2 ml mcp2, .slice cao2 cl ccp2] 27) := ⟨_, rfl⟩
    have hsA : WA.heap.size = w4.heap.size + 1 := by rw [hWA]; simp
    rw [← hWA] at X12 BX5 hOa ⊢
    clear hWA
    obtain ⟨C, hC⟩ : ∃ C, w4.heap.size = C := ⟨_, rfl⟩
    rw [hC] at X12 hsA hlt
    simp only [hC]
    obtain ⟨w2s, hw2s⟩ : ∃ w2s, (w2.alloc (.cells #[.string ⟨nm.toArray⟩, .int .i64 2, .int .i64 qu] 45)).heap.size = w2s := ⟨_, rfl⟩
    have h12 : w2s ≤ C := by rw [← hC, ← hw2s]; exact hf4.size
    have hbB : b + 1 < w2s := by rw [← hw2s]; exact BX3.lC
    rw [hw2s] at hOa hlt
    have c12 := X12.cell
    have HB5 := hid BX5
    have HX12 := hid X12
    have HOA := hid hOa
    have HLT := hid hlt
    have HSA := hid hsA
    have HC2 := hid hc2
    clear hO hlt X12 BX5 BX3 BX2 BX cX fX BY BY3 cY cZ cW HC HM HG HK HX1 HY0 hmle hOa HO hsA hc2
    have hV : ∀ T, (WA.alloc (.cells #[.string ⟨c.toArray⟩, .string ⟨t.toArray⟩, .slice none 0 0] T)).heap[WA.heap.size]? = some (.cells (clsV (⟨c, t, []⟩, (none, 0))).toArray T (0, 0)) := fun T => heap_alloc_new _ _
    have HI2 := hid (insert_cls w2s (.slice cao2 cl ccp2) cs2 p (⟨c, t, []⟩, (none, 0)) WA.heap.size (WA.alloc (.cells #[.string ⟨c.toArray⟩, .string ⟨t.toArray⟩, .slice none 0 0] 53)) (by have := HOA.out.co; simp only [HC2.out] at this ⊢; exact this.alloc _) (by have := HSA.out; simp; omega) (by rw [HC2.out]; exact hp) (by rw [HC2.out]; omega) (hV _) (fun k hk => by have := (HLT.out.2.1 k hk).2; have := HSA.out; omega))
    simp only [HC2.out] at HI2
    clear hV
    go_upto_region 15 with (go_at_call 57; refine HI2.out.mono ?_; rintro e w5 ⟨v3, rfl, hrow3, hown3, hf5⟩; obtain ⟨ao3, cp3, rfl⟩ := ownsRow_shape hrow3; have hfA := ((Frm.refl No WA).alloc (.cells #[.string ⟨c.toArray⟩, .string ⟨t.toArray⟩, .slice none 0 0] 53)).any.then_ hf5; have B12 := HX12.out.other hfA (fun e => by have := (HLT.out.2.1 _ e).2; omega) (fun k hk => by have := (HLT.out.2.1 k hk).1; omega); have B6 := HB5.out.other hfA (fun e => by have := (HLT.out.2.1 _ e).1; omega) (fun k hk => by have := (HLT.out.2.1 k hk).1; omega); have k12 := B12.cell; have g12 := B12.fr)
    have hO3 := HOA.out.setC (cs' := cs2.take p ++ (⟨c, t, []⟩, (none, 0)) :: cs2.drop p) hfA (by
        have e : (cs2.take p ++ ((⟨c, t, []⟩, (none, 0)) : CV) :: cs2.drop p).length = cl + 1 := by
          have := HC2.out
          simp only [List.length_append, List.length_cons, List.length_take, List.length_drop]
          omega
        rw [e]; exact hrow3) (hown3.imp id (fun ⟨k, h, hk⟩ => ⟨k, h, by rw [World.size_alloc] at hk; omega⟩)) (fun q hq => by
        rcases List.mem_append.1 hq with hq | hq
        · exact .inl (List.mem_of_mem_take hq)
        · rcases List.mem_cons.1 hq with rfl | hq
          · exact .inr ⟨rfl, rfl⟩
          · exact .inl (List.mem_of_mem_drop hq)) (dj_insert HOA.out.dss p _ (by intro k hk; cases hk))
    have HRL : Hid ((⟨R.mems, (cs2.take p ++ ((⟨c, t, []⟩, (none, 0)) : CV) :: cs2.drop p).map (·.1)⟩ : Rl) = ⟨R.mems, ins Cls.name R.clss c ⟨c, t, []⟩⟩) := hid (by
        unfold ins
        rw [HPE.out, ← HOA.out.fst, List.map_append, List.map_take, List.map_cons, List.map_drop])
    have hv3 : ∀ k, (Value.slice ao3 (cl + 1) cp3).ownBlock = some k → w2s ≤ k ∧ k ≠ C := fun k hk => by
      rcases hown3 with h | ⟨k', h, hk'⟩
      · rw [h] at hk
        have := HLT.out.2.1 k hk
        omega
      · rw [h] at hk
        cases hk
        rw [World.size_alloc] at hk'
        have := HSA.out
        omega
    have B12s := B12.set 1 (by simp) (.slice ao3 (cl + 1) cp3)
    have B6s := B6.setOther (D := C) B12.hC (by omega) 1 (.slice ao3 (cl + 1) cp3)
    have hFs : Frm (One C) w5 (w5.setCell ⟨C, 1, none⟩ (.slice ao3 (cl + 1) cp3)) := setCell_own _
    generalize w5.setCell ⟨C, 1, none⟩ (.slice ao3 (cl + 1) cp3) = w6 at *
    have k12s := B12s.cell
    have k6 := B6s.cell
    have g6 := B6s.fr
    simp only [List.set_cons_zero, List.set_cons_succ] at k12s
    clear k12 g12 c12 HI2 hrow3 hf5
    go_wp2_with fail
    have B6t := (B6s.set 0 (by simp) (.slice mao2 ml mcp2)).set 1 (by simp) (.slice ao3 (cl + 1) cp3)
    have hFt : Frm (One (b + 1)) w6 ((w6.setCell ⟨b + 1, 0, none⟩ (.slice mao2 ml mcp2)).setCell ⟨b + 1, 1, none⟩ (.slice ao3 (cl + 1) cp3)) := (setCell_own _).then_ (setCell_own _)
    have e0 := B6t.cell 0
    have e1 := B6t.cell 1
    simp only [List.set_cons_zero, List.set_cons_succ, List.getElem?_cons_zero, List.getElem?_cons_succ] at e0 e1
    generalize (w6.setCell ⟨b + 1, 0, none⟩ (.slice mao2 ml mcp2)).setCell ⟨b + 1, 1, none⟩ (.slice ao3 (cl + 1) cp3) = w7 at *
    have hsl : ∀ q ∈ (cs2.take p ++ ((⟨c, t, []⟩, (none, 0)) : CV) :: cs2.drop p), ∀ k, (sv q).ownBlock = some k → w2s ≤ k ∧ k < C := fun q hq k hk => by
      rcases List.mem_append.1 hq with hq | hq
      · exact HLT.out.2.2 q (List.mem_of_mem_take hq) k hk
      · rcases List.mem_cons.1 hq with rfl | hq
        · cases hk
        · exact HLT.out.2.2 q (List.mem_of_mem_drop hq) k hk
    have hO5 := (hO3.frm hFs (fun k hk e => by have e : k = C := e; have := (HLT.out.1 k hk).2; omega) (fun k hk e => (hv3 k hk).2 e) (fun q hq k hk e => by have e : k = C := e; have := (hsl q hq k hk).2; omega)).frm hFt (fun k hk e => by have e : k = b + 1 := e; have := (HLT.out.1 k hk).1; omega) (fun k hk e => by have e : k = b + 1 := e; have := (hv3 k hk).1; omega) (fun q hq k hk e => by have e : k = b + 1 := e; have := (hsl q hq k hk).1; omega)
    rw [HRL.out] at hO5
    refine bodyPost_ret (v := .tuple #[.agg #[.slice mao2 ml mcp2, .slice ao3 (cl + 1) cp3], .int .i64 0]) (by simp [results, Tryz.results19, go_sem, e0, e1]) rfl ⟨_, _, rfl, hO5.rd, B6t.frm⟩
end Go.Proofs.YtofcmghhmklmiaaGreat

namespace Go.Proofs.YtofcmghhmklmiaaGreat
open Go.RowKit
open Roll

theorem isnan1_any (s : B) (w : World) : Calls Tryz.prog 101 #[.string ⟨s.toArray⟩] w fun e w' => e = .returned (.bool false) ∧ w = w' := by
  go_enter Tryz.func101, Tryz.ntmps101
  go_wp2_with fail
  go_ret
  exact ⟨by simp, rfl⟩
theorem isnan2_any (s : B) (w : World) : Calls Tryz.prog 92 #[.string ⟨s.toArray⟩] w fun e w' => e = .returned (.bool false) ∧ w = w' := by
  go_enter Tryz.func92, Tryz.ntmps92
  go_wp2_with fail
  go_ret
  exact ⟨by simp, rfl⟩
theorem less_any (a b : B) (w : World) : Calls Tryz.prog 91 #[.string ⟨a.toArray⟩, .string ⟨b.toArray⟩] w fun e w' => e = .returned (.bool (decide (a < b))) ∧ w = w' := by
  have HL := hid (less_eq a b)
  go_enter Tryz.func91, Tryz.ntmps91
  go_wp2_with (go_at_call 101; refine (isnan1_any _ _).mono ?_; rintro e w1 ⟨rfl, rfl⟩)
  go_ret
  exact ⟨by rw [← HL.out]; simp, rfl⟩
set_option maxRecDepth 100000 in
set_option maxHeartbeats 1000000 in
theorem bss_any (l : List B) (v : Value) (n : B) (w : World) (hv : RdL w v 1 strV l) (hs : Srt id l) (hl : l.length ≤ 1000000) :
    Calls Tryz.prog 63 #[v, .string ⟨n.toArray⟩] w fun e w' =>
      e = .returned (.tuple #[.int .i64 ((place id l n : Nat) : Int), .bool (has id l n)]) ∧ w = w' := by
  obtain ⟨ao, c, rfl⟩ := hv.shape
  have HLT := hid (fun t (ht : t < l.length) => lt_place (n := n) hs t ht)
  have hp := @place_le _ id l n
  have HH := hid (has_opt (n := n) hs)
  obtain ⟨p, hpe⟩ : ∃ p, place id l n = p := ⟨_, rfl⟩
  simp only [hpe] at HLT hp HH ⊢
  clear hs hpe
  obtain ⟨hh, hhe⟩ : ∃ hh, has id l n = hh := ⟨_, rfl⟩
  rw [hhe] at HH ⊢
  clear hhe
  go_enter Tryz.func63, Tryz.ntmps63
  go_wp2_with fail
  go_loopw [7, 8, 9] (fun i j _ wr => ∃ lo hi : Nat, i = .int .i64 (lo : Int) ∧ j = .int .i64 (hi : Int) ∧ lo ≤ p ∧ p ≤ hi ∧ hi ≤ l.length ∧ w = wr)
    (fun i j _ _ => (intOf j).toNat - (intOf i).toNat)
  case atStart => exact ⟨0, l.length, rfl, rfl, Nat.zero_le _, hp, Nat.le_refl _, rfl⟩
  case round =>
    obtain ⟨lo, hi, rfl, rfl, h1, h2, h3, rfl⟩ := hrel
    by_cases hlt : lo < hi
    · obtain ⟨b, o, rfl, hc⟩ := hv.at_ (by omega)
      have hml : (lo + hi) / 2 < l.length := by omega
      have q := hc ((lo + hi) / 2) hml 0 (by omega)
      have HK := hid (HLT.out _ hml)
      obtain ⟨x, hxk⟩ : ∃ x, l[(lo + hi) / 2] = x := ⟨_, rfl⟩
      rw [hxk] at q HK
      simp only [strV, List.getElem?_cons_zero, Nat.mul_one, Nat.add_zero] at q
      have HX := hid (fun w1 => less_any x n w1)
      clear hc hv
      generalize hm : (lo + hi) / 2 = mid at *
      have hmi : ((lo : Int) + (hi : Int)) / 2 = (mid : Int) := by omega
      by_cases hlx : mid < p
      · have hd : decide (x < n) = true := by simpa using HK.out.1 hlx
        rw [hd] at HX
        clear hd
        go_wp2_with (go_at_call 91; refine (HX.out _).mono ?_; rintro e w1 ⟨rfl, rfl⟩)
        exact ⟨⟨mid + 1, hi, by go_num, rfl, by omega, h2, h3, trivial⟩, by simp only [intOf]; omega⟩
      · have hd : decide (x < n) = false := by simpa using fun h => hlx (HK.out.2 h)
        rw [hd] at HX
        clear hd
        go_wp2_with (go_at_call 91; refine (HX.out _).mono ?_; rintro e w1 ⟨rfl, rfl⟩)
        exact ⟨⟨lo, mid, rfl, by go_num, h1, by omega, by omega, trivial⟩, by simp only [intOf]; omega⟩
    · obtain rfl : lo = p := by omega
      by_cases hpl : lo < l.length
      · obtain ⟨b, o, rfl, hc⟩ := hv.at_ (by omega)
        have q := hc lo hpl 0 (by omega)
        have HQ : Hid (hh = decide (l[lo] = n)) := hid (by
          rw [Bool.eq_iff_iff, HH.out]
          simp [List.getElem?_eq_getElem hpl])
        obtain ⟨x, hxk⟩ : ∃ x, l[lo] = x := ⟨_, rfl⟩
        rw [hxk] at q HQ
        simp only [strV, List.getElem?_cons_zero, Nat.mul_one, Nat.add_zero] at q
        clear hc hv
        have hpz : (lo : Int) < (l.length : Int) := by omega
        by_cases hxn : x = n
        · subst hxn
          have hxx : (x == x) = true := by simp
          go_wp2_with (go_at_call 92; refine (isnan2_any _ _).mono ?_; rintro e w1 ⟨rfl, rfl⟩)
          go_ret2
          exact ⟨by rw [HQ.out]; simp, rfl⟩
        · have hxx : (x == n) = false := by simpa using hxn
          have HXN := hid hxn
          clear hxn
          go_wp2_with (go_at_call 92; refine (isnan2_any _ _).mono ?_; rintro e w1 ⟨rfl, rfl⟩)
          go_ret2
          exact ⟨by rw [HQ.out, _root_.decide_eq_false HXN.out]; first | rfl | simp, rfl⟩
      · have HQ : Hid (hh = false) := hid (by
          cases hh
          · rfl
          · obtain ⟨x, h, -⟩ := HH.out.1 rfl
            exact absurd (List.getElem?_eq_some_iff.1 h).1 hpl)
        have hpz : ¬ (lo : Int) < (l.length : Int) := by omega
        go_wp2_with fail
        go_ret2
        exact ⟨by rw [HQ.out]; rfl, rfl⟩
set_option maxRecDepth 100000 in
set_option maxHeartbeats 1000000 in
theorem index_any (l : List B) (v : Value) (n : B) (w : World) (hv : RdL w v 1 strV l) (hl : l.length ≤ 1000000) :
    Calls Tryz.prog 81 #[v, .string ⟨n.toArray⟩] w fun e w' => ∃ i : Int, e = .returned (.int .i64 i) ∧ decide (0 ≤ i) = has id l n ∧ w = w' := by
  obtain ⟨ao, c, rfl⟩ := hv.shape
  go_enter Tryz.func81, Tryz.ntmps81
  go_wp2_with fail
  go_loopw [5, 8] (fun _ i wr => ∃ k : Nat, k ≤ l.length ∧ i = .int .i64 (k : Int) ∧ has id (l.take k) n = false ∧ w = wr)
    (fun _ i _ => l.length - (intOf i).toNat)
  case atStart => exact ⟨0, by omega, rfl, rfl, rfl⟩
  case round =>
    obtain ⟨k, hk, rfl, hb, rfl⟩ := hrel
    have HB := hid hb
    clear hb
    by_cases hkl : k < l.length
    · obtain ⟨b, o, rfl, hc⟩ := hv.at_ (by omega)
      have q := hc k hkl 0 (by omega)
      have HS : Hid (has id (l.take (k + 1)) n = decide (l[k] = n)) := hid (by
        have := HB.out
        unfold has at this ⊢
        rw [List.take_succ_eq_append_getElem hkl, List.any_append, this]
        simp)
      have HM : Hid (l[k] = n → has id l n = true) := hid (fun e => has_iff.2 ⟨l[k], List.getElem_mem hkl, e⟩)
      obtain ⟨x, hxk⟩ : ∃ x, l[k] = x := ⟨_, rfl⟩
      rw [hxk] at q HS HM
      simp only [strV, List.getElem?_cons_zero, Nat.mul_one, Nat.add_zero] at q
      clear hc hv
      by_cases hxn : x = n
      · subst hxn
        have hxx : (x == x) = true := by simp
        go_wp2_with fail
        go_ret
        exact ⟨_, rfl, by rw [HM.out trivial]; simp, rfl⟩
      · have hxx : (n == x) = false := by simpa using fun e : n = x => hxn e.symm
        have HXN := hid hxn
        clear hxn
        go_wp2_with fail
        exact ⟨⟨k + 1, by omega, by go_num, by rw [HS.out]; exact _root_.decide_eq_false HXN.out, trivial⟩, by simp [intOf]; omega⟩
    · obtain rfl : k = l.length := by omega
      rw [List.take_length] at HB
      go_wp2_with fail
      go_ret
      exact ⟨_, rfl, by rw [HB.out]; rfl, rfl⟩
theorem contains_any (l : List B) (v : Value) (n : B) (w : World) (hv : RdL w v 1 strV l) (hl : l.length ≤ 1000000) :
    Calls Tryz.prog 53 #[v, .string ⟨n.toArray⟩] w fun e w' => e = .returned (.bool (has id l n)) ∧ w = w' := by
  have HI := hid (index_any l v n w hv hl)
  obtain ⟨ao, c, rfl⟩ := hv.shape
  go_enter Tryz.func53, Tryz.ntmps53
  go_wp2_with (go_at_call 81; refine HI.out.mono ?_; rintro e w1 ⟨i, rfl, hi, rfl⟩)
  go_ret
  exact ⟨by rw [← hi]; rfl, rfl⟩
end Go.Proofs.YtofcmghhmklmiaaGreat
