/- RollBytes: the roll of any bytes, or what is wrong with them, as the reference has it, for all bytes. Printed by a program (rollbytes.py). -/
import Derived.Test.YtekailaoanpcgaaRefRo5
import Derived.Test.YtekailaoanpcgaaRefRo3
import Derived.Test.YtekailaoanpcgaaRollGI
import Derived.Test.YtekailaoanpcgaaRollP
import Derived.BigQuiet
namespace Go.Proofs.Ytekailaoanpcgaa
open Go.ChangeShapes Go.WideShapes Go.ChangeAt Go.RowKit Go.Deep
open Go.ChangeMaps (open_string shut_string)
open Roll
namespace RollBytes
set_option maxRecDepth 100000 in
set_option maxHeartbeats 4000000 in
theorem same_any (R : Rl) (mv cv mv2 cv2 : Value) (w : World) (hr : RlR w mv cv R) (hr2 : RlR w mv2 cv2 R) (hI : Inv R) :
    Calls Try.prog 18 #[.agg #[mv, cv], .agg #[mv2, cv2]] w fun e w' => e = .returned (.bool true) ∧ Frm No w w' := by
  have HTD := hid (fun w1 (hf : Frm No w w1) => told_any R mv cv w1 (hr.no hf) hI)
  have HP1 := hid (fun w1 a b (h : RlR w1 a b R) => roput_any R a b w1 h hI)
  have HP2 := hid (fun w1 (hf : Frm No w w1) => roput_any R mv2 cv2 w1 (hr2.no hf) hI)
  obtain ⟨ma, ml, mc, ca, cl, cc, rfl, rfl⟩ := hr.any
  obtain ⟨ma2, ml2, mc2, ca2, cl2, cc2, rfl, rfl⟩ := hr2.any
  clear hr hr2 hI
  generalize Roll.put R = pp at *
  go_enter Try.func18, Try.ntmps18
  go_upto_region 1 with fail
  have X0 := Box.new (Frm.refl No w) [.slice ma ml mc, .slice ca cl cc] 27
  have X1 := Box.new X0.frm [.slice ma2 ml2 mc2, .slice ca2 cl2 cc2] 55
  have Y0 := X0.no ((Frm.refl No _).alloc (.cells #[.slice ma2 ml2 mc2, .slice ca2 cl2 cc2] 55))
  simp only [World.size_alloc] at X1
  obtain ⟨W, hW⟩ : ∃ W, W = (w.alloc (.cells #[.slice ma ml mc, .slice ca cl cc] 27)).alloc (.cells #[.slice ma2 ml2 mc2, .slice ca2 cl2 cc2] 55) := ⟨_, rfl⟩
  rw [← hW] at X1 Y0 ⊢
  clear hW
  obtain ⟨b, hb⟩ : ∃ b, w.heap.size = b := ⟨_, rfl⟩
  rw [hb] at X1 Y0
  simp only [hb]
  have HF := hid X1.frm
  have q0 := Y0.cell 0
  have q1 := Y0.cell 1
  have q2 := X1.cell 0
  have q3 := X1.cell 1
  simp only [List.getElem?_cons_zero, List.getElem?_cons_succ] at q0 q1 q2 q3
  have hb0 := Y0.lC
  have hb1 := X1.lC
  have SK : Hid (∀ w', Frm No W w' → w'.cell? ⟨b, 0, none⟩ = some (.slice ma ml mc) ∧ w'.cell? ⟨b, 1, none⟩ = some (.slice ca cl cc) ∧ w'.cell? ⟨b + 1, 0, none⟩ = some (.slice ma2 ml2 mc2) ∧ w'.cell? ⟨b + 1, 1, none⟩ = some (.slice ca2 cl2 cc2)) := hid fun w' hf => ⟨(hf.cell (p := ⟨b, 0, none⟩) hb0 (fun h => h)).trans q0, (hf.cell (p := ⟨b, 1, none⟩) hb0 (fun h => h)).trans q1, (hf.cell (p := ⟨b + 1, 0, none⟩) hb1 (fun h => h)).trans q2, (hf.cell (p := ⟨b + 1, 1, none⟩) hb1 (fun h => h)).trans q3⟩
  clear X0 X1 Y0 q0 q1 q2 q3
  refine wp_region_late (fun w' => w'.cell? ⟨b, 0, none⟩ = some (.slice ma ml mc) ∧ w'.cell? ⟨b, 1, none⟩ = some (.slice ca cl cc) ∧ w'.cell? ⟨b + 1, 0, none⟩ = some (.slice ma2 ml2 mc2) ∧ w'.cell? ⟨b + 1, 1, none⟩ = some (.slice ca2 cl2 cc2)) [] (by kernel_rfl) (SK.out _ (Frm.refl _ _).drew) (fun hHeld => ?_)
  refine wpLate_take [1, 2, 5, 6] (i := 0) (oi := _) (v := _) rfl (by kernel_rfl) (by kernel_rfl) (by kernel_rfl) (by kernel_rfl) (by kernel_rfl) (fun _ _ _ h => h) (Or.inl ⟨by rfl, by intro w hSw; (try dsimp only at hSw); go_simp; all_goals with_reducible rfl⟩) (by assumption) ?_
  (try simp only [Act.put, List.getElem_toArray, List.getElem_cons_zero, List.setIfInBounds_toArray, List.set_cons_zero, List.set_cons_succ])
  refine wpLate_take [4, 5, 6] (i := 3) (oi := _) (v := _) rfl (by kernel_rfl) (by kernel_rfl) (by kernel_rfl) (by kernel_rfl) (by kernel_rfl) (fun _ _ _ h => h) (Or.inl ⟨by rfl, by intro w hSw; (try dsimp only at hSw); go_simp; all_goals with_reducible rfl⟩) (by assumption) ?_
  (try simp only [Act.put, List.getElem_toArray, List.getElem_cons_succ, List.getElem_cons_zero, List.setIfInBounds_toArray, List.set_cons_zero, List.set_cons_succ])
  refine wpLate_ready (rs := [1]) (by kernel_rfl) (by simp) ?_
  refine (AllReadyL.cons (i := 1) rfl (fun K hK => ?_) AllReadyL.nil)
  simp only [List.getElem_toArray, List.getElem_cons_succ, List.getElem_cons_zero]
  go_simp
  refine (HTD.out _ (HF.out.drew)).mono ?_; rintro e wa ⟨mv3, cv3, rfl, hr3, hfa0⟩; obtain ⟨ma3, ml3, mc3, ca3, cl3, cc3, rfl, rfl⟩ := hr3.any; have hfa := (Frm.refl No W).drew.thenNo hfa0
  refine hK.out _ _ (SK.out _ hfa) (fun hHeld => ?_)
  clear hK K
  (try simp only [Act.put, List.getElem_toArray, List.getElem_cons_succ, List.getElem_cons_zero, List.setIfInBounds_toArray, List.set_cons_zero, List.set_cons_succ])
  refine wpLate_ready (rs := [2]) (by kernel_rfl) (by simp) ?_
  refine (AllReadyL.cons (i := 2) rfl (fun K hK => ?_) AllReadyL.nil)
  simp only [List.getElem_toArray, List.getElem_cons_succ, List.getElem_cons_zero]
  go_simp
  refine (HP1.out _ _ _ hr3).mono ?_; rintro e wb ⟨rfl, hfb⟩
  refine hK.out _ _ (SK.out _ (hfa.thenNo hfb)) (fun hHeld => ?_)
  clear hK K
  (try simp only [Act.put, List.getElem_toArray, List.getElem_cons_succ, List.getElem_cons_zero, List.setIfInBounds_toArray, List.set_cons_zero, List.set_cons_succ])
  refine wpLate_ready (rs := [4]) (by kernel_rfl) (by simp) ?_
  refine (AllReadyL.cons (i := 4) rfl (fun K hK => ?_) AllReadyL.nil)
  simp only [List.getElem_toArray, List.getElem_cons_succ, List.getElem_cons_zero]
  go_simp
  refine (HP2.out _ (HF.out.thenNo (hfa.thenNo hfb))).mono ?_; rintro e wd ⟨rfl, hfd⟩
  refine hK.out _ _ (SK.out _ ((hfa.thenNo hfb).thenNo hfd)) (fun hHeld => ?_)
  clear hK K
  (try simp only [Act.put, List.getElem_toArray, List.getElem_cons_succ, List.getElem_cons_zero, List.setIfInBounds_toArray, List.set_cons_zero, List.set_cons_succ])
  refine wpLate_take0 (i := 5) (oi := _) (v := _) rfl (by kernel_rfl) (by kernel_rfl) (by kernel_rfl) (by kernel_rfl) (fun _ _ _ h => h) (Or.inl ⟨by rfl, by intro w _; go_simp; all_goals with_reducible rfl⟩) (fun _ => by assumption) ?_
  (try simp only [Act.put, List.getElem_toArray, List.getElem_cons_succ, List.getElem_cons_zero, List.setIfInBounds_toArray, List.set_cons_zero, List.set_cons_succ])
  refine wpLate_take0 (i := 6) (oi := _) (v := _) rfl (by kernel_rfl) (by kernel_rfl) (by kernel_rfl) (by kernel_rfl) (fun _ _ _ h => h) (Or.inl ⟨by rfl, by intro w _; go_simp; all_goals with_reducible rfl⟩) (fun _ => by assumption) ?_
  (try simp only [Act.put, List.getElem_toArray, List.getElem_cons_succ, List.getElem_cons_zero, List.setIfInBounds_toArray, List.set_cons_zero, List.set_cons_succ])
  refine wpLate_done (by kernel_rfl) ?_ _
  go_wp2_with fail
  go_ret
  exact ⟨by simp, HF.out.thenNo ((hfa.thenNo hfb).thenNo hfd)⟩
set_option maxRecDepth 100000 in
set_option maxHeartbeats 8000000 in
theorem walk (s : List UInt8) (hl : s.length ≤ 140737488351232) (w : World) :
    Calls Try.prog 5 #[.string ⟨s.toArray⟩] w fun e w' => e = .returned (.bool true) ∧ Frm No w w' := by
  have HG := hid (fun w1 => rget_any s w1 (by omega))
  have HR := hid (fun w1 => roget_any s w1 (by omega))
  have hI := get_right s
  have HINV : Hid ((getR s).2 = 0 → Roll.put (getR s).1 = s) := hid (fun e => (get_inv (s := s) (R := (getR s).1) (by rw [← e])).2)
  obtain ⟨⟨R, er⟩, hx⟩ : ∃ x, getR s = x := ⟨_, rfl⟩
  rw [hx] at HG HR hI HINV
  dsimp only at hI HINV
  have HI := hid hI
  clear hx hI
  have HSM := hid (fun w1 a b a2 b2 (h1 : RlR w1 a b R) (h2 : RlR w1 a2 b2 R) => same_any R a b a2 b2 w1 h1 h2 HI.out)
  have HP := hid (fun w1 a b (h1 : RlR w1 a b R) => rput_any R a b w1 h1 HI.out)
  by_cases h2000 : 2000 < s.length
  · as_aux_lemma =>
    have h2z : (2000 : Int) < (s.length : Int) := by omega
    clear HG HR HINV HI HSM HP
    go_enter Try.func5, Try.ntmps5
    go_wp2_with (go_at_call 7; refine (rollspeaks _).mono ?_; rintro e w1 ⟨rfl, hf1⟩)
    go_ret
    exact ⟨rfl, hf1⟩
  · have h2z : ¬ (2000 : Int) < (s.length : Int) := by omega
    go_enter Try.func5, Try.ntmps5
    go_upto_region 6 with (first | (go_at_call 7; refine (rollspeaks _).mono ?_; rintro e w1 ⟨rfl, hf1⟩) | (go_at_call 16; refine (HG.out _).mono ?_; rintro e w2 ⟨mv, cv, rfl, hr, hf2⟩; obtain ⟨ma, ml, mc, ca, cl, cc, rfl, rfl⟩ := hr.any))
    have B1 := Box.new (hf1.thenNo hf2) [.slice ma ml mc, .slice ca cl cc] 27
    have hr1 := hr.no ((Frm.refl No w2).alloc (.cells #[.slice ma ml mc, .slice ca cl cc] 27))
    obtain ⟨W1, hW1⟩ : ∃ W1, W1 = w2.alloc (.cells #[.slice ma ml mc, .slice ca cl cc] 27) := ⟨_, rfl⟩
    have hW2 : W1 = w2.alloc (.cells ([.slice ma ml mc, .slice ca cl cc] : List Value).toArray 27) := hW1
    rw [← hW1] at hr1 ⊢
    rw [← hW2] at B1
    clear hW1 hW2 hr hf1 hf2
    obtain ⟨b1, hb1⟩ : ∃ b1, w2.heap.size = b1 := ⟨_, rfl⟩
    rw [hb1] at B1
    (try simp only [hb1])
    have HB1 := hid B1
    have HR1 := hid hr1
    clear B1 hr1 hb1
    go_upto_region 7 with (go_at_call 17; refine (HR.out _).mono ?_; rintro e w3 ⟨mv2, cv2, rfl, hr2, hf3⟩; obtain ⟨ma2, ml2, mc2, ca2, cl2, cc2, rfl, rfl⟩ := hr2.any)
    have B2 := Box.new (HB1.out.frm.thenNo hf3) [.slice ma2 ml2 mc2, .slice ca2 cl2 cc2] 55
    have hr4 := hr2.no ((Frm.refl No w3).alloc (.cells #[.slice ma2 ml2 mc2, .slice ca2 cl2 cc2] 55))
    have hr5 := (HR1.out.no hf3).no ((Frm.refl No w3).alloc (.cells #[.slice ma2 ml2 mc2, .slice ca2 cl2 cc2] 55))
    have B3 := (HB1.out.no hf3).no ((Frm.refl No w3).alloc (.cells #[.slice ma2 ml2 mc2, .slice ca2 cl2 cc2] 55))
    obtain ⟨W3, hW3⟩ : ∃ W3, W3 = w3.alloc (.cells #[.slice ma2 ml2 mc2, .slice ca2 cl2 cc2] 55) := ⟨_, rfl⟩
    have hW4 : W3 = w3.alloc (.cells ([.slice ma2 ml2 mc2, .slice ca2 cl2 cc2] : List Value).toArray 55) := hW3
    rw [← hW3] at hr4 hr5 B3 ⊢
    rw [← hW4] at B2
    clear hW3 hW4 hr2 hf3 HB1 HR1
    obtain ⟨b2, hb2⟩ : ∃ b2, w3.heap.size = b2 := ⟨_, rfl⟩
    rw [hb2] at B2
    (try simp only [hb2])
    have k0 := B3.cell
    have k1 := B2.cell
    have HSM1 := hid (HSM.out _ _ _ _ _ hr5 hr4)
    have HP1 := hid (fun w1 (hf : Frm No W3 w1) => HP.out w1 _ _ (hr5.no hf))
    have HB2 := hid B2
    have HB3 := hid B3
    clear B2 B3 hr4 hr5 HSM HP HG HR hb2
    by_cases her : er = 0
    · subst her
      have hps := HINV.out rfl
      rw [hps] at HP1
      clear hps HINV HI
      go_wp2_with (first | (go_at_call 18; refine HSM1.out.mono ?_; rintro e w4 ⟨rfl, hf4⟩; have k2 := (HB3.out.no hf4).cell) | (go_at_call 11; refine (HP1.out _ hf4).mono ?_; rintro e w5 ⟨rfl, hf5⟩))
      go_ret
      exact ⟨by simp, HB2.out.frm.thenNo (hf4.thenNo hf5)⟩
    · have her2 : (er != 0) = true := bne_iff_ne.2 her
      have her3 : (er == 0) = false := beq_eq_false_iff_ne.2 her
      clear HINV HI HP1
      go_wp2_with (go_at_call 18; refine HSM1.out.mono ?_; rintro e w4 ⟨rfl, hf4⟩)
      go_ret
      exact ⟨by simp, HB2.out.frm.thenNo hf4⟩
set_option maxRecDepth 100000 in
theorem lifted (os : Os) (started : os.Started) (H : Type) (enc : TypeId × Value → H) :
    ReturnsInHanded {} Try.checked os 5 .any (Rows.rollBytesSpec.pre6 enc Try.prog Try.f5 Rows.rollBytesRow.domain false) (Rows.rollBytesSpec.post enc Try.prog Try.f5 false true false false) := by
  refine returnsInHanded_of_change_sized (C := Try.checked) own started (by kernel_rfl) Try.func5
    (ChangeSpec.witness6 (enc := enc) (C := Try.checked) false ⟨#[], #[.string ByteArray.empty], []⟩ 8 (by kernel_rfl) (by kernel_rfl) (by kernel_rfl) (by kernel_rfl)) ?_
  intro W base args ds gs before hval0 hW _ hsz0 _
  have hsz : (DataW.weightsEach Try.prog (Try.f5.params.toList ++ Rows.rollBytesSpec.plain.varTypes Try.prog) (ds ++ gs)).all (· ≤ reachBytes) = true := hsz0
  clear hsz0
  have hval : ∀ (j : Nat) t v, Try.f5.params[j]? = some t → args[j]? = some v → Value.okWide Try.prog W .any base t v := hval0
  have hW' : DataW.Whole enc Try.prog Try.f5.params.toList Rows.rollBytesSpec.vars false W args.toList ds gs before := hW
  have hts : ∀ t ∈ Try.f5.params.toList, Try.prog.readableRec t = true ∧ t < Try.prog.types.size := by
    rw [Try.params5]
    intro t ht
    simp only [List.mem_cons, List.not_mem_nil, or_false] at ht
    subst ht; exact ⟨by kernel_rfl, of_decide_eq_true (by kernel_rfl)⟩
  obtain ⟨p, q, hA0, hV, hbef, hfz, hnd⟩ := hW
  have hA : DataW.TrodAll enc Try.prog W 0 (fun _ => true) true Try.f5.params.toList args.toList ds p := hA0
  rw [Try.params5] at hA hval hsz
  obtain ⟨v0, vs0, d0, ds0, p0, q0, hargs, rfl, rfl, h0, r0⟩ := trodAll_cons hA
  obtain ⟨rfl, rfl, rfl⟩ := trodAll_nil r0
  obtain rfl : args = #[v0] := by cases args; simp_all
  clear hA hA0 hval0
  obtain ⟨a0, rfl, rfl, rfl, w0⟩ := open_string Try.underlying9 (hval 0 9 v0 rfl rfl) h0
  have hb0' : a0.data.toList.length ≤ 140737488351232 := sized_string hsz (j := 0) (t := 9) rfl rfl
  obtain ⟨l0, rfl⟩ := str_of a0
  refine (walk l0 hb0' W ).mono fun e W' ⟨he, hg⟩ => ?_
  subst he
  exact ⟨_, rfl, post_law hW' rfl Try.underlying4 rfl rfl rfl rfl laidOut hts hg.toBelow⟩

theorem over : Rows.rollBytesRow.holds Try.pinned (OpenSpec.ofChange Rows.rollBytesSpec) :=
  OpenClaim.holds_of_wide 5 Try.f5 rfl rfl rfl rfl rfl rfl rfl ⟨rfl, rfl, rfl, rfl, rfl⟩ rfl rfl rfl rfl rfl (by kernel_rfl) Try.func5 (by kernel_rfl)
    (of_decide_eq_true (by kernel_rfl)) (by unfold Func.isWrapper; first | (rw [if_pos (by decide +kernel)]; kernel_rfl) | (rw [if_neg (by decide +kernel)]; exact ⟨rfl, rfl⟩))
    (fun os started H enc _ => lifted os started H enc)

theorem proved : Rows.RollBytesSaid :=
  over
#print axioms proved
end RollBytes
end Go.Proofs.Ytekailaoanpcgaa
