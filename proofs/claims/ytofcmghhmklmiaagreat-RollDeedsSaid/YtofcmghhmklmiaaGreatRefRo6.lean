/- The law's `same` of two rolls that are the same roll. -/
import Derived.Test.YtofcmghhmklmiaaGreatRefRo4
import Derived.Test.YtofcmghhmklmiaaGreatRefRo3
import Derived.BigQuiet
namespace Go.Proofs.YtofcmghhmklmiaaGreat
open Go.ChangeShapes Go.WideShapes Go.ChangeAt Go.RowKit Go.Deep
open Roll
set_option maxRecDepth 100000 in
set_option maxHeartbeats 4000000 in
theorem same_any (R : Rl) (mv cv mv2 cv2 : Value) (w : World) (hr : RlR w mv cv R) (hr2 : RlR w mv2 cv2 R) (hI : Inv R) :
    Calls Tryz.prog 8 #[.agg #[mv, cv], .agg #[mv2, cv2]] w fun e w' => e = .returned (.bool true) ∧ Frm No w w' := by
  have HTD := hid (fun w1 (hf : Frm No w w1) => told_any R mv cv w1 (hr.no hf) hI)
  have HP1 := hid (fun w1 a b (h : RlR w1 a b R) => roput_any R a b w1 h hI)
  have HP2 := hid (fun w1 (hf : Frm No w w1) => roput_any R mv2 cv2 w1 (hr2.no hf) hI)
  obtain ⟨ma, ml, mc, ca, cl, cc, rfl, rfl⟩ := hr.any
  obtain ⟨ma2, ml2, mc2, ca2, cl2, cc2, rfl, rfl⟩ := hr2.any
  clear hr hr2 hI
  generalize Roll.put R = pp at *
  go_enter Tryz.func8, Tryz.ntmps8
  go_upto_region 1 with fail
  have X0 := Box.new (Frm.refl No w) [.slice ma ml mc, .slice ca cl cc] 27
  have X1 := Box.new X0.frm [.slice ma2 ml2 mc2, .slice ca2 cl2 cc2] 31
  have Y0 := X0.no ((Frm.refl No _).alloc (.cells #[.slice ma2 ml2 mc2, .slice ca2 cl2 cc2] 31))
  simp only [World.size_alloc] at X1
  obtain ⟨W, hW⟩ : ∃ W, W = (w.alloc (.cells #[.slice ma ml mc, .slice ca cl cc] 27)).alloc (.cells #[.slice ma2 ml2 mc2, .slice ca2 cl2 cc2] 31) := ⟨_, rfl⟩
  rw [← hW] at X1 Y0 ⊢
  clear hW
  obtain ⟨b, hb⟩ : ∃ b, w.heap.size = b := ⟨_, rfl⟩
  rw [hb] at X1 Y0
  simp only [hb]
  have HF := hid X1.frm
  have q0 := Y0.cell 0
  have q1 := Y0.cell 1
  have q2 := X1.cell 0
  have q3 := X1.cell 1
  simp only [List.getElem?_cons_zero, List.getElem?_cons_succ] at q0 q1 q2 q3
  have hb0 := Y0.lC
  have hb1 := X1.lC
  have SK : Hid (∀ w', Frm No W w' → w'.cell? ⟨b, 0, none⟩ = some (.slice ma ml mc) ∧ w'.cell? ⟨b, 1, none⟩ = some (.slice ca cl cc) ∧ w'.cell? ⟨b + 1, 0, none⟩ = some (.slice ma2 ml2 mc2) ∧ w'.cell? ⟨b + 1, 1, none⟩ = some (.slice ca2 cl2 cc2)) := hid fun w' hf => ⟨(hf.cell (p := ⟨b, 0, none⟩) hb0 (fun h => h)).trans q0, (hf.cell (p := ⟨b, 1, none⟩) hb0 (fun h => h)).trans q1, (hf.cell (p := ⟨b + 1, 0, none⟩) hb1 (fun h => h)).trans q2, (hf.cell (p := ⟨b + 1, 1, none⟩) hb1 (fun h => h)).trans q3⟩
  clear X0 X1 Y0 q0 q1 q2 q3
  refine wp_region_late (fun w' => w'.cell? ⟨b, 0, none⟩ = some (.slice ma ml mc) ∧ w'.cell? ⟨b, 1, none⟩ = some (.slice ca cl cc) ∧ w'.cell? ⟨b + 1, 0, none⟩ = some (.slice ma2 ml2 mc2) ∧ w'.cell? ⟨b + 1, 1, none⟩ = some (.slice ca2 cl2 cc2)) [] (by kernel_rfl) (SK.out _ (Frm.refl _ _).drew) (fun hHeld => ?_)
  refine wpLate_take [1, 2, 5, 6] (i := 0) (oi := _) (v := _) rfl (by kernel_rfl) (by kernel_rfl) (by kernel_rfl) (by kernel_rfl) (by kernel_rfl) (fun _ _ _ h => h) (Or.inl ⟨by rfl, by intro w hSw; (try dsimp only at hSw); go_simp; all_goals with_reducible rfl⟩) (by assumption) ?_
  (try simp only [Act.put, List.getElem_toArray, List.getElem_cons_zero, List.setIfInBounds_toArray, List.set_cons_zero, List.set_cons_succ])
  refine wpLate_take [4, 5, 6] (i := 3) (oi := _) (v := _) rfl (by kernel_rfl) (by kernel_rfl) (by kernel_rfl) (by kernel_rfl) (by kernel_rfl) (fun _ _ _ h => h) (Or.inl ⟨by rfl, by intro w hSw; (try dsimp only at hSw); go_simp; all_goals with_reducible rfl⟩) (by assumption) ?_
  (try simp only [Act.put, List.getElem_toArray, List.getElem_cons_succ, List.getElem_cons_zero, List.setIfInBounds_toArray, List.set_cons_zero, List.set_cons_succ])
  refine wpLate_ready (rs := [1]) (by kernel_rfl) (by simp) ?_
  refine (AllReadyL.cons (i := 1) rfl (fun K hK => ?_) AllReadyL.nil)
  simp only [List.getElem_toArray, List.getElem_cons_succ, List.getElem_cons_zero]
  go_simp
  refine (HTD.out _ (HF.out.drew)).mono ?_; rintro e wa ⟨mv3, cv3, rfl, hr3, hfa0⟩; obtain ⟨ma3, ml3, mc3, ca3, cl3, cc3, rfl, rfl⟩ := hr3.any; have hfa := (Frm.refl No W).drew.thenNo hfa0
  refine hK.out _ _ (SK.out _ hfa) (fun hHeld => ?_)
  clear hK K
  (try simp only [Act.put, List.getElem_toArray, List.getElem_cons_succ, List.getElem_cons_zero, List.setIfInBounds_toArray, List.set_cons_zero, List.set_cons_succ])
  refine wpLate_ready (rs := [2]) (by kernel_rfl) (by simp) ?_
  refine (AllReadyL.cons (i := 2) rfl (fun K hK => ?_) AllReadyL.nil)
  simp only [List.getElem_toArray, List.getElem_cons_succ, List.getElem_cons_zero]
  go_simp
  refine (HP1.out _ _ _ hr3).mono ?_; rintro e wb ⟨rfl, hfb⟩
  refine hK.out _ _ (SK.out _ (hfa.thenNo hfb)) (fun hHeld => ?_)
  clear hK K
  (try simp only [Act.put, List.getElem_toArray, List.getElem_cons_succ, List.getElem_cons_zero, List.setIfInBounds_toArray, List.set_cons_zero, List.set_cons_succ])
  refine wpLate_ready (rs := [4]) (by kernel_rfl) (by simp) ?_
  refine (AllReadyL.cons (i := 4) rfl (fun K hK => ?_) AllReadyL.nil)
  simp only [List.getElem_toArray, List.getElem_cons_succ, List.getElem_cons_zero]
  go_simp
  refine (HP2.out _ (HF.out.thenNo (hfa.thenNo hfb))).mono ?_; rintro e wd ⟨rfl, hfd⟩
  refine hK.out _ _ (SK.out _ ((hfa.thenNo hfb).thenNo hfd)) (fun hHeld => ?_)
  clear hK K
  (try simp only [Act.put, List.getElem_toArray, List.getElem_cons_succ, List.getElem_cons_zero, List.setIfInBounds_toArray, List.set_cons_zero, List.set_cons_succ])
  refine wpLate_take0 (i := 5) (oi := _) (v := _) rfl (by kernel_rfl) (by kernel_rfl) (by kernel_rfl) (by kernel_rfl) (fun _ _ _ h => h) (Or.inl ⟨by rfl, by intro w _; go_simp; all_goals with_reducible rfl⟩) (fun _ => by assumption) ?_
  (try simp only [Act.put, List.getElem_toArray, List.getElem_cons_succ, List.getElem_cons_zero, List.setIfInBounds_toArray, List.set_cons_zero, List.set_cons_succ])
  refine wpLate_take0 (i := 6) (oi := _) (v := _) rfl (by kernel_rfl) (by kernel_rfl) (by kernel_rfl) (by kernel_rfl) (fun _ _ _ h => h) (Or.inl ⟨by rfl, by intro w _; go_simp; all_goals with_reducible rfl⟩) (fun _ => by assumption) ?_
  (try simp only [Act.put, List.getElem_toArray, List.getElem_cons_succ, List.getElem_cons_zero, List.setIfInBounds_toArray, List.set_cons_zero, List.set_cons_succ])
  refine wpLate_done (by kernel_rfl) ?_ _
  go_wp2_with fail
  go_ret
  exact ⟨by simp, HF.out.thenNo ((hfa.thenNo hfb).thenNo hfd)⟩
end Go.Proofs.YtofcmghhmklmiaaGreat
