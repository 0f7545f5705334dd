/- Open. Printed by a program (rollf.py). -/
import Derived.Test.YtekailaoanpcgaaRollE
namespace Go.Proofs.Ytekailaoanpcgaa
open Go.RowKit
open Roll

theorem dj_insert {cs : List CV} (h : cs.Pairwise fun p q => Dj (sv p) (sv q)) (i : Nat) (x : CV) (hx : ∀ k, (sv x).ownBlock ≠ some k) : (cs.take i ++ x :: cs.drop i).Pairwise fun p q => Dj (sv p) (sv q) := by
  have h' := h
  rw [← List.take_append_drop i cs, List.pairwise_append] at h'
  refine List.pairwise_append.2 ⟨h'.1, List.pairwise_cons.2 ⟨fun q _ k hk => absurd hk (hx k), h'.2.1⟩, fun a ha b hb => ?_⟩
  rcases List.mem_cons.1 hb with rfl | hb
  · exact fun k _ e => hx k e
  · exact h'.2.2 a ha b hb
set_option maxRecDepth 100000 in
set_option maxHeartbeats 4000000 in
theorem ropen_any (R : Rl) (mv cv : Value) (c t : B) (w : World) (hr : RlR w mv cv R) (hI : Inv R) (hn : c.length ≤ 9223372036854775807) :
    Calls Try.prog 9 #[.agg #[mv, cv], .string ⟨c.toArray⟩, .string ⟨t.toArray⟩] w (DeedP w (open_ R c t)) := by
  have HK := hid (fun w1 (hf : Frm No w w1) => class_any R mv cv c w1 (hr.no hf) hI.cs (by have := hI.cl; omega))
  have HM := hid (fun w1 (hf : Frm No w w1) => rmember_any R mv cv t w1 (hr.no hf) hI.ms (by have := hI.ml; omega))
  have HG := hid (fun w1 => good_any c w1 hn)
  have HC := hid (fun w1 (hf : Frm No w w1) => rclone_inv (hr.no hf) hI)
  have hml := hI.ml
  have hcl := hI.cl
  obtain ⟨mao, mcp, rfl⟩ := hr.mr.shape
  obtain ⟨cs, hfs, hc, -⟩ := hr.cr
  have hcsl : cs.length = R.clss.length := by rw [← hfs]; simp
  obtain ⟨cao, ccp, rfl⟩ := hc.shape
  rw [hcsl] at HK HM HC ⊢
  obtain ⟨ml, hmle⟩ : ∃ ml, R.mems.length = ml := ⟨_, rfl⟩
  rw [hmle] at hml HK HM HC ⊢
  obtain ⟨cl, hcle⟩ : ∃ cl, R.clss.length = cl := ⟨_, rfl⟩
  rw [hcle] at hcl HK HM HC ⊢
  have hp := @place_le _ Cls.name R.clss c
  rw [hcle] at hp
  have HCLE := hid hcle
  have HMLE := hid hmle
  clear hr hc hfs hcle hmle hcsl
  by_cases h1 : Cmd.gn c = false
  · as_aux_lemma =>
    have he : open_ R c t = (Roll.nil, 8) := by unfold open_; rw [if_pos h1]
    rw [h1] at HG
    rw [he]
    clear he h1 HC hI HMLE HCLE
    generalize place Cls.name R.clss c = p at *
    generalize has Cls.name R.clss c = q at *
    generalize (find Mem.name R.mems t).isSome = fs at *
    generalize (find Mem.name R.mems t).getD memZ = fm at *
    obtain ⟨nm, ro, qu⟩ := fm
    simp only [mag] at HM
    go_enter Try.func9, Try.ntmps9
    go_upto_region 1 with fail
    have X0 := Box.new (Frm.refl No w) [.slice mao ml mcp, .slice cao cl ccp] 27
    have X1 := Box.new X0.frm [.slice none 0 0, .slice none 0 0] 27
    have Y0 := X0.no ((Frm.refl No _).alloc (.cells #[.slice none 0 0, .slice none 0 0] 27))
    simp only [World.size_alloc] at X1
    obtain ⟨W, hW⟩ : ∃ W, W = (w.alloc (.cells #[.slice mao ml mcp, .slice cao cl ccp] 27)).alloc (.cells #[.slice none 0 0, .slice none 0 0] 27) := ⟨_, rfl⟩
    rw [← hW] at X1 Y0 ⊢
    clear hW
    obtain ⟨b, hb⟩ : ∃ b, w.heap.size = b := ⟨_, rfl⟩
    rw [hb] at X1 Y0
    simp only [hb]
    have F1 := X1.frm
    have HX1 := hid X1
    have HY0 := hid Y0
    have cW := Y0.cell
    clear X0 X1 Y0
    go_wp2_with (first | (go_at_call 23; refine (HK.out _ F1).mono ?_; rintro e w1 ⟨rfl, hf1⟩; have BX := HX1.out.no hf1; have BY := HY0.out.no hf1; have cY := BY.cell) | (go_at_call 14; refine (HM.out _ BY.frm).mono ?_; rintro e w2 ⟨rfl, hf2⟩; have BX3 := (BX.no hf2).no ((Frm.refl No w2).alloc (.cells #[.string ⟨nm.toArray⟩, .int .i64 ro, .int .i64 qu] 43)); have BY3 := (BY.no hf2).no ((Frm.refl No w2).alloc (.cells #[.string ⟨nm.toArray⟩, .int .i64 ro, .int .i64 qu] 43)); have cX := BX3.cell; have fX := BX3.fr; have cZ := BY3.cell) | (go_at_call 20; refine (HG.out _).mono ?_; rintro e w3 ⟨rfl, rfl⟩))
    have BX4 := (BX3.set 0 (by simp) (.slice none 0 0)).set 1 (by simp) (.slice none 0 0)
    have e0 := BX4.cell 0
    have e1 := BX4.cell 1
    simp only [List.set_cons_zero, List.set_cons_succ, List.getElem?_cons_zero, List.getElem?_cons_succ] at e0 e1
    refine bodyPost_ret (v := .tuple #[.agg #[.slice none 0 0, .slice none 0 0], .int .i64 8]) (by simp [results, Try.results9, go_sem, e0, e1]) rfl ⟨_, _, rfl, nil_rd _, BX4.frm⟩
  by_cases h2 : has Cls.name R.clss c = true
  · as_aux_lemma =>
    have he : open_ R c t = (Roll.nil, 9) := by unfold open_; rw [if_neg h1, if_pos h2]
    rw [Bool.not_eq_false] at h1
    rw [h1] at HG
    rw [h2] at HK
    rw [he]
    clear he h1 h2 HC hI HMLE HCLE
    generalize place Cls.name R.clss c = p at *
    generalize (find Mem.name R.mems t).isSome = fs at *
    generalize (find Mem.name R.mems t).getD memZ = fm at *
    obtain ⟨nm, ro, qu⟩ := fm
    simp only [mag] at HM
    go_enter Try.func9, Try.ntmps9
    go_upto_region 1 with fail
    have X0 := Box.new (Frm.refl No w) [.slice mao ml mcp, .slice cao cl ccp] 27
    have X1 := Box.new X0.frm [.slice none 0 0, .slice none 0 0] 27
    have Y0 := X0.no ((Frm.refl No _).alloc (.cells #[.slice none 0 0, .slice none 0 0] 27))
    simp only [World.size_alloc] at X1
    obtain ⟨W, hW⟩ : ∃ W, W = (w.alloc (.cells #[.slice mao ml mcp, .slice cao cl ccp] 27)).alloc (.cells #[.slice none 0 0, .slice none 0 0] 27) := ⟨_, rfl⟩
    rw [← hW] at X1 Y0 ⊢
    clear hW
    obtain ⟨b, hb⟩ : ∃ b, w.heap.size = b := ⟨_, rfl⟩
    rw [hb] at X1 Y0
    simp only [hb]
    have F1 := X1.frm
    have HX1 := hid X1
    have HY0 := hid Y0
    have cW := Y0.cell
    clear X0 X1 Y0
    go_wp2_with (first | (go_at_call 23; refine (HK.out _ F1).mono ?_; rintro e w1 ⟨rfl, hf1⟩; have BX := HX1.out.no hf1; have BY := HY0.out.no hf1; have cY := BY.cell) | (go_at_call 14; refine (HM.out _ BY.frm).mono ?_; rintro e w2 ⟨rfl, hf2⟩; have BX3 := (BX.no hf2).no ((Frm.refl No w2).alloc (.cells #[.string ⟨nm.toArray⟩, .int .i64 ro, .int .i64 qu] 43)); have BY3 := (BY.no hf2).no ((Frm.refl No w2).alloc (.cells #[.string ⟨nm.toArray⟩, .int .i64 ro, .int .i64 qu] 43)); have cX := BX3.cell; have fX := BX3.fr; have cZ := BY3.cell) | (go_at_call 20; refine (HG.out _).mono ?_; rintro e w3 ⟨rfl, rfl⟩))
    have BX4 := (BX3.set 0 (by simp) (.slice none 0 0)).set 1 (by simp) (.slice none 0 0)
    have e0 := BX4.cell 0
    have e1 := BX4.cell 1
    simp only [List.set_cons_zero, List.set_cons_succ, List.getElem?_cons_zero, List.getElem?_cons_succ] at e0 e1
    refine bodyPost_ret (v := .tuple #[.agg #[.slice none 0 0, .slice none 0 0], .int .i64 9]) (by simp [results, Try.results9, go_sem, e0, e1]) rfl ⟨_, _, rfl, nil_rd _, BX4.frm⟩
  cases h3 : find Mem.name R.mems t with
  | none =>
    as_aux_lemma =>
    have he : open_ R c t = (Roll.nil, 10) := by unfold open_; rw [if_neg h1, if_neg h2, h3]
    rw [Bool.not_eq_false] at h1
    rw [Bool.not_eq_true] at h2
    rw [h1] at HG
    rw [h2] at HK
    simp only [h3, Option.isSome_none, Option.getD_none] at HM
    rw [he]
    clear he h1 h2 h3 HC hI HMLE HCLE
    generalize place Cls.name R.clss c = p at *
    generalize memZ = fm at *
    obtain ⟨nm, ro, qu⟩ := fm
    simp only [mag] at HM
    go_enter Try.func9, Try.ntmps9
    go_upto_region 1 with fail
    have X0 := Box.new (Frm.refl No w) [.slice mao ml mcp, .slice cao cl ccp] 27
    have X1 := Box.new X0.frm [.slice none 0 0, .slice none 0 0] 27
    have Y0 := X0.no ((Frm.refl No _).alloc (.cells #[.slice none 0 0, .slice none 0 0] 27))
    simp only [World.size_alloc] at X1
    obtain ⟨W, hW⟩ : ∃ W, W = (w.alloc (.cells #[.slice mao ml mcp, .slice cao cl ccp] 27)).alloc (.cells #[.slice none 0 0, .slice none 0 0] 27) := ⟨_, rfl⟩
    rw [← hW] at X1 Y0 ⊢
    clear hW
    obtain ⟨b, hb⟩ : ∃ b, w.heap.size = b := ⟨_, rfl⟩
    rw [hb] at X1 Y0
    simp only [hb]
    have F1 := X1.frm
    have HX1 := hid X1
    have HY0 := hid Y0
    have cW := Y0.cell
    clear X0 X1 Y0
    go_wp2_with (first | (go_at_call 23; refine (HK.out _ F1).mono ?_; rintro e w1 ⟨rfl, hf1⟩; have BX := HX1.out.no hf1; have BY := HY0.out.no hf1; have cY := BY.cell) | (go_at_call 14; refine (HM.out _ BY.frm).mono ?_; rintro e w2 ⟨rfl, hf2⟩; have BX3 := (BX.no hf2).no ((Frm.refl No w2).alloc (.cells #[.string ⟨nm.toArray⟩, .int .i64 ro, .int .i64 qu] 43)); have BY3 := (BY.no hf2).no ((Frm.refl No w2).alloc (.cells #[.string ⟨nm.toArray⟩, .int .i64 ro, .int .i64 qu] 43)); have cX := BX3.cell; have fX := BX3.fr; have cZ := BY3.cell) | (go_at_call 20; refine (HG.out _).mono ?_; rintro e w3 ⟨rfl, rfl⟩))
    have BX4 := (BX3.set 0 (by simp) (.slice none 0 0)).set 1 (by simp) (.slice none 0 0)
    have e0 := BX4.cell 0
    have e1 := BX4.cell 1
    simp only [List.set_cons_zero, List.set_cons_succ, List.getElem?_cons_zero, List.getElem?_cons_succ] at e0 e1
    refine bodyPost_ret (v := .tuple #[.agg #[.slice none 0 0, .slice none 0 0], .int .i64 10]) (by simp [results, Try.results9, go_sem, e0, e1]) rfl ⟨_, _, rfl, nil_rd _, BX4.frm⟩
  | some fm =>
    simp only [h3, Option.isSome_some, Option.getD_some] at HM
    by_cases h4 : fm.role ≠ 2
    · as_aux_lemma =>
      have he : open_ R c t = (Roll.nil, 13) := by unfold open_; rw [if_neg h1, if_neg h2, h3]; dsimp only; rw [if_pos h4]
      rw [Bool.not_eq_false] at h1
      rw [Bool.not_eq_true] at h2
      rw [h1] at HG
      rw [h2] at HK
      rw [he]
      clear he h1 h2 h3 HC hI HMLE HCLE
      generalize place Cls.name R.clss c = p at *
      obtain ⟨nm, ro, qu⟩ := fm
      simp only [mag] at HM
      have h4a : (ro == 2) = false := by simpa using h4
      have h4b : (ro != 2) = true := by simpa using h4
      clear h4
      go_enter Try.func9, Try.ntmps9
      go_upto_region 1 with fail
      have X0 := Box.new (Frm.refl No w) [.slice mao ml mcp, .slice cao cl ccp] 27
      have X1 := Box.new X0.frm [.slice none 0 0, .slice none 0 0] 27
      have Y0 := X0.no ((Frm.refl No _).alloc (.cells #[.slice none 0 0, .slice none 0 0] 27))
      simp only [World.size_alloc] at X1
      obtain ⟨W, hW⟩ : ∃ W, W = (w.alloc (.cells #[.slice mao ml mcp, .slice cao cl ccp] 27)).alloc (.cells #[.slice none 0 0, .slice none 0 0] 27) := ⟨_, rfl⟩
      rw [← hW] at X1 Y0 ⊢
      clear hW
      obtain ⟨b, hb⟩ : ∃ b, w.heap.size = b := ⟨_, rfl⟩
      rw [hb] at X1 Y0
      simp only [hb]
      have F1 := X1.frm
      have HX1 := hid X1
      have HY0 := hid Y0
      have cW := Y0.cell
      clear X0 X1 Y0
      go_wp2_with (first | (go_at_call 23; refine (HK.out _ F1).mono ?_; rintro e w1 ⟨rfl, hf1⟩; have BX := HX1.out.no hf1; have BY := HY0.out.no hf1; have cY := BY.cell) | (go_at_call 14; refine (HM.out _ BY.frm).mono ?_; rintro e w2 ⟨rfl, hf2⟩; have BX3 := (BX.no hf2).no ((Frm.refl No w2).alloc (.cells #[.string ⟨nm.toArray⟩, .int .i64 ro, .int .i64 qu] 43)); have BY3 := (BY.no hf2).no ((Frm.refl No w2).alloc (.cells #[.string ⟨nm.toArray⟩, .int .i64 ro, .int .i64 qu] 43)); have cX := BX3.cell; have fX := BX3.fr; have cZ := BY3.cell) | (go_at_call 20; refine (HG.out _).mono ?_; rintro e w3 ⟨rfl, rfl⟩))
      have BX4 := (BX3.set 0 (by simp) (.slice none 0 0)).set 1 (by simp) (.slice none 0 0)
      have e0 := BX4.cell 0
      have e1 := BX4.cell 1
      simp only [List.set_cons_zero, List.set_cons_succ, List.getElem?_cons_zero, List.getElem?_cons_succ] at e0 e1
      refine bodyPost_ret (v := .tuple #[.agg #[.slice none 0 0, .slice none 0 0], .int .i64 13]) (by simp [results, Try.results9, go_sem, e0, e1]) rfl ⟨_, _, rfl, nil_rd _, BX4.frm⟩
    by_cases h5 : 32 ≤ cl
    · as_aux_lemma =>
      have he : open_ R c t = (Roll.nil, 12) := by unfold open_; rw [if_neg h1, if_neg h2, h3]; dsimp only; rw [if_neg h4, HCLE.out, if_pos h5]
      rw [Bool.not_eq_false] at h1
      rw [Bool.not_eq_true] at h2
      rw [h1] at HG
      rw [h2] at HK
      rw [he]
      clear he h1 h2 h3 HC hI HMLE HCLE
      generalize place Cls.name R.clss c = p at *
      obtain ⟨nm, ro, qu⟩ := fm
      simp only [mag] at HM
      obtain rfl : ro = 2 := by simpa using h4
      clear h4
      have h5z : (32 : Int) ≤ (cl : Int) := by omega
      go_enter Try.func9, Try.ntmps9
      go_upto_region 1 with fail
      have X0 := Box.new (Frm.refl No w) [.slice mao ml mcp, .slice cao cl ccp] 27
      have X1 := Box.new X0.frm [.slice none 0 0, .slice none 0 0] 27
      have Y0 := X0.no ((Frm.refl No _).alloc (.cells #[.slice none 0 0, .slice none 0 0] 27))
      simp only [World.size_alloc] at X1
      obtain ⟨W, hW⟩ : ∃ W, W = (w.alloc (.cells #[.slice mao ml mcp, .slice cao cl ccp] 27)).alloc (.cells #[.slice none 0 0, .slice none 0 0] 27) := ⟨_, rfl⟩
      rw [← hW] at X1 Y0 ⊢
      clear hW
      obtain ⟨b, hb⟩ : ∃ b, w.heap.size = b := ⟨_, rfl⟩
      rw [hb] at X1 Y0
      simp only [hb]
      have F1 := X1.frm
      have HX1 := hid X1
      have HY0 := hid Y0
      have cW := Y0.cell
      clear X0 X1 Y0
      go_wp2_with (first | (go_at_call 23; refine (HK.out _ F1).mono ?_; rintro e w1 ⟨rfl, hf1⟩; have BX := HX1.out.no hf1; have BY := HY0.out.no hf1; have cY := BY.cell) | (go_at_call 14; refine (HM.out _ BY.frm).mono ?_; rintro e w2 ⟨rfl, hf2⟩; have BX3 := (BX.no hf2).no ((Frm.refl No w2).alloc (.cells #[.string ⟨nm.toArray⟩, .int .i64 2, .int .i64 qu] 43)); have BY3 := (BY.no hf2).no ((Frm.refl No w2).alloc (.cells #[.string ⟨nm.toArray⟩, .int .i64 2, .int .i64 qu] 43)); have cX := BX3.cell; have fX := BX3.fr; have cZ := BY3.cell) | (go_at_call 20; refine (HG.out _).mono ?_; rintro e w3 ⟨rfl, rfl⟩))
      have BX4 := (BX3.set 0 (by simp) (.slice none 0 0)).set 1 (by simp) (.slice none 0 0)
      have e0 := BX4.cell 0
      have e1 := BX4.cell 1
      simp only [List.set_cons_zero, List.set_cons_succ, List.getElem?_cons_zero, List.getElem?_cons_succ] at e0 e1
      refine bodyPost_ret (v := .tuple #[.agg #[.slice none 0 0, .slice none 0 0], .int .i64 12]) (by simp [results, Try.results9, go_sem, e0, e1]) rfl ⟨_, _, rfl, nil_rd _, BX4.frm⟩
    as_aux_lemma =>
    have he : open_ R c t = (⟨R.mems, ins Cls.name R.clss c ⟨c, t, []⟩⟩, 0) := by unfold open_; rw [if_neg h1, if_neg h2, h3]; dsimp only; rw [if_neg h4, HCLE.out, if_neg h5]
    rw [Bool.not_eq_false] at h1
    rw [Bool.not_eq_true] at h2
    rw [h1] at HG
    rw [h2] at HK
    rw [he]
    have hI' := hid hI
    clear he h1 h2 h3 hI
    obtain ⟨p, hpe⟩ : ∃ p, place Cls.name R.clss c = p := ⟨_, rfl⟩
    simp only [hpe] at HK hp
    have HPE := hid hpe
    clear hpe
    obtain ⟨nm, ro, qu⟩ := fm
    simp only [mag] at HM
    obtain rfl : ro = 2 := by simpa using h4
    clear h4
    have h5z : ¬ (32 : Int) ≤ (cl : Int) := by omega
    go_enter Try.func9, Try.ntmps9
    go_upto_region 1 with fail
    have X0 := Box.new (Frm.refl No w) [.slice mao ml mcp, .slice cao cl ccp] 27
    have X1 := Box.new X0.frm [.slice none 0 0, .slice none 0 0] 27
    have Y0 := X0.no ((Frm.refl No _).alloc (.cells #[.slice none 0 0, .slice none 0 0] 27))
    simp only [World.size_alloc] at X1
    obtain ⟨W, hW⟩ : ∃ W, W = (w.alloc (.cells #[.slice mao ml mcp, .slice cao cl ccp] 27)).alloc (.cells #[.slice none 0 0, .slice none 0 0] 27) := ⟨_, rfl⟩
    rw [← hW] at X1 Y0 ⊢
    clear hW
    obtain ⟨b, hb⟩ : ∃ b, w.heap.size = b := ⟨_, rfl⟩
    rw [hb] at X1 Y0
    simp only [hb]
    have F1 := X1.frm
    have HX1 := hid X1
    have HY0 := hid Y0
    have cW := Y0.cell
    clear X0 X1 Y0
    go_upto_region 14 with (first | (go_at_call 23; refine (HK.out _ F1).mono ?_; rintro e w1 ⟨rfl, hf1⟩; have BX := HX1.out.no hf1; have BY := HY0.out.no hf1; have cY := BY.cell) | (go_at_call 14; refine (HM.out _ BY.frm).mono ?_; rintro e w2 ⟨rfl, hf2⟩; have BX3 := (BX.no hf2).no ((Frm.refl No w2).alloc (.cells #[.string ⟨nm.toArray⟩, .int .i64 2, .int .i64 qu] 43)); have BY3 := (BY.no hf2).no ((Frm.refl No w2).alloc (.cells #[.string ⟨nm.toArray⟩, .int .i64 2, .int .i64 qu] 43)); have cX := BX3.cell; have fX := BX3.fr; have cZ := BY3.cell) | (go_at_call 20; refine (HG.out _).mono ?_; rintro e w3 ⟨rfl, rfl⟩) | (go_at_call 21; refine (HC.out _ BY3.frm).mono ?_; rintro e w4 ⟨mv2, cv2, cs2, rfl, hO, hf4⟩; obtain ⟨mao2, mcp2, rfl⟩ := ownsRow_shape hO.mo; obtain ⟨cao2, ccp2, rfl⟩ := ownsRow_shape hO.co))
    have hmle := HMLE.out
    have HO := hid hO
    rw [hmle]
    have hc2 : cs2.length = cl := by have := congrArg List.length hO.fst; simp only [List.length_map] at this; rw [this]; exact HCLE.out
    rw [hc2]
    have BX2 := BX3.no hf4
    have X12 := Box.new BX2.frm [.slice mao2 ml mcp2, .slice cao2 cl ccp2] 27
    have BX5 := BX2.no ((Frm.refl No w4).alloc (.cells #[.slice mao2 ml mcp2, .slice cao2 cl ccp2] 27))
    have hOa := hO.no ((Frm.refl No w4).alloc (.cells #[.slice mao2 ml mcp2, .slice cao2 cl ccp2] 27))
    have hlt := hO.lt
    rw [hmle, hc2] at hOa hlt
    obtain ⟨WA, hWA⟩ : ∃ WA, WA = w4.alloc (.cells #[.slice mao2 ml mcp2, .slice cao2 cl ccp2] 27) := ⟨_, rfl⟩
    have hsA : WA.heap.size = w4.heap.size + 1 := by rw [hWA]; simp
    rw [← hWA] at X12 BX5 hOa ⊢
    clear hWA
    obtain ⟨C, hC⟩ : ∃ C, w4.heap.size = C := ⟨_, rfl⟩
    rw [hC] at X12 hsA hlt
    simp only [hC]
    obtain ⟨w2s, hw2s⟩ : ∃ w2s, (w2.alloc (.cells #[.string ⟨nm.toArray⟩, .int .i64 2, .int .i64 qu] 43)).heap.size = w2s := ⟨_, rfl⟩
    have h12 : w2s ≤ C := by rw [← hC, ← hw2s]; exact hf4.size
    have hbB : b + 1 < w2s := by rw [← hw2s]; exact BX3.lC
    rw [hw2s] at hOa hlt
    have c12 := X12.cell
    have HB5 := hid BX5
    have HX12 := hid X12
    have HOA := hid hOa
    have HLT := hid hlt
    have HSA := hid hsA
    have HC2 := hid hc2
    clear hO hlt X12 BX5 BX3 BX2 BX cX fX BY BY3 cY cZ cW HC HM HG HK HX1 HY0 hmle hOa HO hsA hc2
    have hV : ∀ T, (WA.alloc (.cells #[.string ⟨c.toArray⟩, .string ⟨t.toArray⟩, .slice none 0 0] T)).heap[WA.heap.size]? = some (.cells (clsV (⟨c, t, []⟩, (none, 0))).toArray T (0, 0)) := fun T => heap_alloc_new _ _
    have HI2 := hid (insert_cls w2s (.slice cao2 cl ccp2) cs2 p (⟨c, t, []⟩, (none, 0)) WA.heap.size (WA.alloc (.cells #[.string ⟨c.toArray⟩, .string ⟨t.toArray⟩, .slice none 0 0] 48)) (by have := HOA.out.co; simp only [HC2.out] at this ⊢; exact this.alloc _) (by have := HSA.out; simp; omega) (by rw [HC2.out]; exact hp) (by rw [HC2.out]; omega) (hV _) (fun k hk => by have := (HLT.out.2.1 k hk).2; have := HSA.out; omega))
    simp only [HC2.out] at HI2
    clear hV
    go_upto_region 15 with (go_at_call 24; refine HI2.out.mono ?_; rintro e w5 ⟨v3, rfl, hrow3, hown3, hf5⟩; obtain ⟨ao3, cp3, rfl⟩ := ownsRow_shape hrow3; have hfA := ((Frm.refl No WA).alloc (.cells #[.string ⟨c.toArray⟩, .string ⟨t.toArray⟩, .slice none 0 0] 48)).any.then_ hf5; have B12 := HX12.out.other hfA (fun e => by have := (HLT.out.2.1 _ e).2; omega) (fun k hk => by have := (HLT.out.2.1 k hk).1; omega); have B6 := HB5.out.other hfA (fun e => by have := (HLT.out.2.1 _ e).1; omega) (fun k hk => by have := (HLT.out.2.1 k hk).1; omega); have k12 := B12.cell; have g12 := B12.fr)
    have hO3 := HOA.out.setC (cs' := cs2.take p ++ (⟨c, t, []⟩, (none, 0)) :: cs2.drop p) hfA (by
        have e : (cs2.take p ++ ((⟨c, t, []⟩, (none, 0)) : CV) :: cs2.drop p).length = cl + 1 := by
          have := HC2.out
          simp only [List.length_append, List.length_cons, List.length_take, List.length_drop]
          omega
        rw [e]; exact hrow3) (hown3.imp id (fun ⟨k, h, hk⟩ => ⟨k, h, by rw [World.size_alloc] at hk; omega⟩)) (fun q hq => by
        rcases List.mem_append.1 hq with hq | hq
        · exact .inl (List.mem_of_mem_take hq)
        · rcases List.mem_cons.1 hq with rfl | hq
          · exact .inr ⟨rfl, rfl⟩
          · exact .inl (List.mem_of_mem_drop hq)) (dj_insert HOA.out.dss p _ (by intro k hk; cases hk))
    have HRL : Hid ((⟨R.mems, (cs2.take p ++ ((⟨c, t, []⟩, (none, 0)) : CV) :: cs2.drop p).map (·.1)⟩ : Rl) = ⟨R.mems, ins Cls.name R.clss c ⟨c, t, []⟩⟩) := hid (by
        unfold ins
        rw [HPE.out, ← HOA.out.fst, List.map_append, List.map_take, List.map_cons, List.map_drop])
    have hv3 : ∀ k, (Value.slice ao3 (cl + 1) cp3).ownBlock = some k → w2s ≤ k ∧ k ≠ C := fun k hk => by
      rcases hown3 with h | ⟨k', h, hk'⟩
      · rw [h] at hk
        have := HLT.out.2.1 k hk
        omega
      · rw [h] at hk
        cases hk
        rw [World.size_alloc] at hk'
        have := HSA.out
        omega
    have B12s := B12.set 1 (by simp) (.slice ao3 (cl + 1) cp3)
    have B6s := B6.setOther (D := C) B12.hC (by omega) 1 (.slice ao3 (cl + 1) cp3)
    have hFs : Frm (One C) w5 (w5.setCell ⟨C, 1, none⟩ (.slice ao3 (cl + 1) cp3)) := setCell_own _
    generalize w5.setCell ⟨C, 1, none⟩ (.slice ao3 (cl + 1) cp3) = w6 at *
    have k12s := B12s.cell
    have k6 := B6s.cell
    have g6 := B6s.fr
    simp only [List.set_cons_zero, List.set_cons_succ] at k12s
    clear k12 g12 c12 HI2 hrow3 hf5
    go_wp2_with fail
    have B6t := (B6s.set 0 (by simp) (.slice mao2 ml mcp2)).set 1 (by simp) (.slice ao3 (cl + 1) cp3)
    have hFt : Frm (One (b + 1)) w6 ((w6.setCell ⟨b + 1, 0, none⟩ (.slice mao2 ml mcp2)).setCell ⟨b + 1, 1, none⟩ (.slice ao3 (cl + 1) cp3)) := (setCell_own _).then_ (setCell_own _)
    have e0 := B6t.cell 0
    have e1 := B6t.cell 1
    simp only [List.set_cons_zero, List.set_cons_succ, List.getElem?_cons_zero, List.getElem?_cons_succ] at e0 e1
    generalize (w6.setCell ⟨b + 1, 0, none⟩ (.slice mao2 ml mcp2)).setCell ⟨b + 1, 1, none⟩ (.slice ao3 (cl + 1) cp3) = w7 at *
    have hsl : ∀ q ∈ (cs2.take p ++ ((⟨c, t, []⟩, (none, 0)) : CV) :: cs2.drop p), ∀ k, (sv q).ownBlock = some k → w2s ≤ k ∧ k < C := fun q hq k hk => by
      rcases List.mem_append.1 hq with hq | hq
      · exact HLT.out.2.2 q (List.mem_of_mem_take hq) k hk
      · rcases List.mem_cons.1 hq with rfl | hq
        · cases hk
        · exact HLT.out.2.2 q (List.mem_of_mem_drop hq) k hk
    have hO5 := (hO3.frm hFs (fun k hk e => by have e : k = C := e; have := (HLT.out.1 k hk).2; omega) (fun k hk e => (hv3 k hk).2 e) (fun q hq k hk e => by have e : k = C := e; have := (hsl q hq k hk).2; omega)).frm hFt (fun k hk e => by have e : k = b + 1 := e; have := (HLT.out.1 k hk).1; omega) (fun k hk e => by have e : k = b + 1 := e; have := (hv3 k hk).1; omega) (fun q hq k hk e => by have e : k = b + 1 := e; have := (hsl q hq k hk).1; omega)
    rw [HRL.out] at hO5
    refine bodyPost_ret (v := .tuple #[.agg #[.slice mao2 ml mcp2, .slice ao3 (cl + 1) cp3], .int .i64 0]) (by simp [results, Try.results9, go_sem, e0, e1]) rfl ⟨_, _, rfl, hO5.rd, B6t.frm⟩
end Go.Proofs.Ytekailaoanpcgaa
