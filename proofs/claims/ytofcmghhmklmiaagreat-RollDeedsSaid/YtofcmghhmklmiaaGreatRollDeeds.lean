/- RollDeeds: a school through any deeds: each answer, all members and classes, all along, their bytes, as the reference has them, for every list of deeds. Printed by a program (rolldeeds.py). -/
import Derived.Test.YtofcmghhmklmiaaGreatRefD7
import Derived.Test.YtofcmghhmklmiaaGreatRefD8
import Derived.Test.YtofcmghhmklmiaaGreatRefRo6
import Derived.Test.YtofcmghhmklmiaaGreatRollW
import Derived.Test.YtofcmghhmklmiaaGreatRollP
import Derived.Deep.Cut
import Derived.Deep.CutRange
import Derived.Deep.CutBlock
import Derived.BigQuiet
namespace Go.Proofs.YtofcmghhmklmiaaGreat
open Go.ChangeShapes Go.WideShapes Go.ChangeAt Go.RowKit Go.Deep
open Roll
namespace RollDeeds
/-- What is left by 'x, ok := f(..)': x lies in a block that was made since w1. -/
def OutP (w w1 : World) (cs : List Value) (ok p q : Value) (wq : World) : Prop := ∃ F, p = .pointer (some ⟨F, 0, none⟩) ∧ q = ok ∧ Box w wq F cs ∧ Frm No w1 wq ∧ w1.heap.size ≤ F
theorem out_end1 {w w1 wa : World} (cs : List Value) {ok : Value} {T : TypeId} (h0 : Frm No w w1) (hf : Frm No w1 wa) : OutP w w1 cs ok (.pointer (some ⟨wa.heap.size, 0, none⟩)) ok (wa.alloc (.cells cs.toArray T)) :=
  ⟨_, rfl, rfl, Box.new (h0.thenNo hf) cs T, hf.alloc _, hf.size⟩
theorem out_end2 {w w1 wb : World} {F : Nat} {a b x y ok : Value} (hB : Box w wb F [a, b]) (hf : Frm No w1 wb) (hF : w1.heap.size ≤ F) : OutP w w1 [x, y] ok (.pointer (some ⟨F, 0, none⟩)) ok ((wb.setCell ⟨F, 0, none⟩ x).setCell ⟨F, 1, none⟩ y) :=
  ⟨F, rfl, rfl, (hB.set 0 (by simp) x).set 1 (by simp) y, hf.trans ((setCell_own _).then_ (setCell_own _) : Frm (One F) wb _) (fun _ _ h => h) (fun k hk e => by have e : k = F := e; omega), hF⟩
theorem out_end3 {w w1 wb : World} {F : Nat} {a b c x y z ok : Value} (hB : Box w wb F [a, b, c]) (hf : Frm No w1 wb) (hF : w1.heap.size ≤ F) : OutP w w1 [x, y, z] ok (.pointer (some ⟨F, 0, none⟩)) ok (((wb.setCell ⟨F, 0, none⟩ x).setCell ⟨F, 1, none⟩ y).setCell ⟨F, 2, none⟩ z) :=
  ⟨F, rfl, rfl, ((hB.set 0 (by simp) x).set 1 (by simp) y).set 2 (by simp) z, hf.trans (((setCell_own _).then_ (setCell_own _)).then_ (setCell_own _) : Frm (One F) wb _) (fun _ _ h => h) (fun k hk e => by have e : k = F := e; omega), hF⟩
def OutR (w w1 : World) (R : Rl) (ok p q : Value) (wq : World) : Prop := ∃ mv cv, OutP w w1 [mv, cv] ok p q wq ∧ RlR wq mv cv R
theorem outr_end1 {w w1 wa : World} {mv cv ok : Value} {R : Rl} {T : TypeId} (h0 : Frm No w w1) (hf : Frm No w1 wa) (hr : RlR wa mv cv R) : OutR w w1 R ok (.pointer (some ⟨wa.heap.size, 0, none⟩)) ok (wa.alloc (.cells #[mv, cv] T)) :=
  ⟨mv, cv, out_end1 [mv, cv] h0 hf, hr.no ((Frm.refl No wa).alloc _)⟩
theorem outr_end2 {w w1 wb : World} {F : Nat} {mv cv ok : Value} {R : Rl} (hB : Box w wb F [.slice none 0 0, .slice none 0 0]) (hf : Frm No w1 wb) (hF : w1.heap.size ≤ F) (hr : RlR wb mv cv R) : OutR w w1 R ok (.pointer (some ⟨F, 0, none⟩)) ok ((wb.setCell ⟨F, 0, none⟩ mv).setCell ⟨F, 1, none⟩ cv) :=
  ⟨mv, cv, out_end2 hB hf hF, (RB.mk hB (noStr2 nil3 nil3)).rl hr ((setCell_own _).then_ (setCell_own _))⟩
/-- What the loop keeps: the code's roll in block E, the reference's in block G: the same roll. -/
structure LwI (w wr : World) (E G : Nat) (mv cv mv2 cv2 : Value) (R : Rl) : Prop where
  bE : Box w wr E [mv, cv]
  bG : Box w wr G [mv2, cv2]
  ne : E ≠ G
  rE : RlR wr mv cv R
  rG : RlR wr mv2 cv2 R
  inv : Inv R
theorem LwI.no {w wr w2 : World} {E G : Nat} {mv cv mv2 cv2 : Value} {R : Rl} (h : LwI w wr E G mv cv mv2 cv2 R) (hf : Frm No wr w2) : LwI w w2 E G mv cv mv2 cv2 R :=
  ⟨h.bE.no hf, h.bG.no hf, h.ne, h.rE.no hf, h.rG.no hf, h.inv⟩
def KpI (w : World) (E G : Nat) (wr : World) : Prop := ∃ mv cv mv2 cv2 R, LwI w wr E G mv cv mv2 cv2 R
/-- Both rolls are replaced. -/
theorem LwI.turn {w wr w3 : World} {E G : Nat} {mv cv mv2 cv2 mv3 cv3 mv4 cv4 : Value} {R R2 : Rl} (h : LwI w wr E G mv cv mv2 cv2 R) (hI : Inv R2) (h3 : RlR wr mv3 cv3 R2) (h4 : RlR wr mv4 cv4 R2)
    (hw : w3 = (((wr.setCell ⟨E, 0, none⟩ mv3).setCell ⟨E, 1, none⟩ cv3).setCell ⟨G, 0, none⟩ mv4).setCell ⟨G, 1, none⟩ cv4) : LwI w w3 E G mv3 cv3 mv4 cv4 R2 := by
  obtain ⟨a, b, c, d, e, f, rfl, rfl⟩ := h.rE.any
  obtain ⟨a2, b2, c2, d2, e2, f2, rfl, rfl⟩ := h.rG.any
  subst hw
  have k1 := (h.bE.set 0 (by simp) mv3).set 1 (by simp) cv3
  have k2 := (h.bG.setOther h.bE.hC h.ne.symm 0 mv3).setOther h.bE.hC h.ne.symm 1 cv3
  have f1 : Frm (One E) wr ((wr.setCell ⟨E, 0, none⟩ mv3).setCell ⟨E, 1, none⟩ cv3) := (setCell_own _).then_ (setCell_own _)
  have r1 := (RB.mk h.bE (noStr2 ⟨_, _, _, rfl⟩ ⟨_, _, _, rfl⟩)).rl h3 f1
  have r2 := (RB.mk h.bE (noStr2 ⟨_, _, _, rfl⟩ ⟨_, _, _, rfl⟩)).rl h4 f1
  have f2 : Frm (One G) ((wr.setCell ⟨E, 0, none⟩ mv3).setCell ⟨E, 1, none⟩ cv3) ((((wr.setCell ⟨E, 0, none⟩ mv3).setCell ⟨E, 1, none⟩ cv3).setCell ⟨G, 0, none⟩ mv4).setCell ⟨G, 1, none⟩ cv4) := (setCell_own _).then_ (setCell_own _)
  exact ⟨(k1.setOther h.bG.hC h.ne 0 mv4).setOther h.bG.hC h.ne 1 cv4, (k2.set 0 (by simp) mv4).set 1 (by simp) cv4, h.ne, (RB.mk k2 (noStr2 ⟨_, _, _, rfl⟩ ⟨_, _, _, rfl⟩)).rl r1 f2, (RB.mk k2 (noStr2 ⟨_, _, _, rfl⟩ ⟨_, _, _, rfl⟩)).rl r2 f2, hI⟩
theorem LwI.swap {w wr : World} {E G : Nat} {mv cv mv2 cv2 : Value} {R : Rl} (h : LwI w wr E G mv cv mv2 cv2 R) : LwI w wr G E mv2 cv2 mv cv R := ⟨h.bG, h.bE, h.ne.symm, h.rG, h.rE, h.inv⟩
theorem find_is {R : Rl} {mv cv : Value} {n : B} {w : World} (hr : RlR w mv cv R) (hI : Inv R) :
    Calls Tryz.prog 13 #[.agg #[mv, cv], .string ⟨n.toArray⟩] w fun e w' => e = .returned (.tuple #[mag ((find Mem.name R.mems n).getD memZ), .bool (find Mem.name R.mems n).isSome]) ∧ Frm No w w' :=
  (rfind_any R mv cv n w hr (by have := hI.ml; omega)).mono fun e w' h => by
    revert h
    cases find Mem.name R.mems n <;> exact fun h => h
def clsZ : Cls := ⟨[], [], []⟩
theorem class_is {R : Rl} {mv cv : Value} {n : B} {w : World} (hr : RlR w mv cv R) (hI : Inv R) :
    Calls Tryz.prog 14 #[.agg #[mv, cv], .string ⟨n.toArray⟩] w fun e w' => ∃ so sc, e = .returned (.tuple #[.agg #[.string ⟨((find Cls.name R.clss n).getD clsZ).name.toArray⟩, .string ⟨((find Cls.name R.clss n).getD clsZ).teacher.toArray⟩, .slice so ((find Cls.name R.clss n).getD clsZ).students.length sc], .bool (find Cls.name R.clss n).isSome]) ∧ Frm No w w' :=
  (rclass_any R mv cv n w hr hI).mono fun e w' h => by
    revert h
    cases find Cls.name R.clss n with
    | none => exact fun h => ⟨_, _, h⟩
    | some X => exact fun h => h
def tk (R : Rl) (a s : B) (k : Nat) : Bool := (R.clss.take k).any fun c => c.teacher == a && has id c.students s
theorem tk_next (R : Rl) (a s : B) (k : Nat) (hk : k < R.clss.length) : tk R a s (k + 1) = (tk R a s k || ((R.clss[k]).teacher == a && has id (R.clss[k]).students s)) := by
  unfold tk
  rw [List.take_succ_eq_append_getElem hk, List.any_append]
  simp only [List.any_cons, List.any_nil, Bool.or_false]
theorem tk_all (R : Rl) (a s : B) : tk R a s R.clss.length = teaches R a s := by
  unfold tk teaches
  rw [List.take_length]
theorem put_len {R : Rl} (h : Inv R) : (Roll.put R).length ≤ 281474976710656 := by
  have := acC_len h R.clss.length
  rw [acC_all] at this
  omega
set_option maxRecDepth 100000 in
set_option maxHeartbeats 8000000 in
theorem walk (v : Value) (l : List Deed) (w : World) (hr : RdL w v 4 deedV l) (_hal : l.length ≤ maxLen) (_hg : ∀ y ∈ l, DeedOK y) :
    Calls Tryz.prog 3 #[v] w fun e w' => e = .returned (.bool true) ∧ Frm No w w' := by
  obtain ⟨ao, cp, rfl⟩ := hr.shape
  have HD := hid (fun w1 (hf : Frm No w w1) k (hk : k < l.length) => deed_at hr hf k hk)
  have HDO := hid (fun w1 mv cv R (d : Deed) (hr : RlR w1 mv cv R) (hI : Inv R) (ha : d.a.length ≤ 200) => do_any R mv cv d w1 hr hI ha)
  have HDN := hid (fun w1 mv cv R (d : Deed) (hr : RlR w1 mv cv R) (hI : Inv R) (ha : d.a.length ≤ 200) => done_any R mv cv d w1 hr hI ha)
  have HLG := hid (fun w1 d => long_any d w1)
  obtain ⟨al, hale⟩ : ∃ al, l.length = al := ⟨_, rfl⟩
  have HAL := hid hale
  rw [hale] at ⊢
  clear hr hale
  go_enter Tryz.func3, Tryz.ntmps3
  go_upto_region 5 with (go_at_call 4; refine (rollspeaks _).mono ?_; rintro e w1 ⟨rfl, hf1⟩)
  have BE0 := Box.new hf1 [.slice none 0 0, .slice none 0 0] 27
  have BG := Box.new BE0.frm [.slice none 0 0, .slice none 0 0] 31
  have BE := BE0.no ((Frm.refl No _).alloc (.cells #[.slice none 0 0, .slice none 0 0] 31))
  simp only [World.size_alloc] at BG
  obtain ⟨W, hW⟩ : ∃ W, W = (w1.alloc (.cells #[.slice none 0 0, .slice none 0 0] 27)).alloc (.cells #[.slice none 0 0, .slice none 0 0] 31) := ⟨_, rfl⟩
  rw [← hW] at BE BG ⊢
  clear hW
  obtain ⟨E, hE⟩ : ∃ E, w1.heap.size = E := ⟨_, rfl⟩
  rw [hE] at BE BG
  (try simp only [hE])
  obtain ⟨G, hG⟩ : ∃ G, E + 1 = G := ⟨_, rfl⟩
  rw [hG] at BG
  (try simp only [hG])
  have HI : Hid (KpI w E G W) := hid ⟨_, _, _, _, Roll.nil, BE, BG, by omega, nil_rd W, nil_rd W, inv_nil⟩
  clear BE BG BE0 hE hG hf1
  go_wp2_with fail
  go_loopw [5] (fun i wr => ∃ k : Nat, k ≤ 40 ∧ i = .int .i64 (k : Int) ∧ KpI w E G wr)
    (fun i _ => 40 - (intOf i).toNat)
  case atStart => exact ⟨0, by omega, rfl, HI.out⟩
  case round =>
    clear HI
    obtain ⟨k, hk, rfl, mv, cv, mv2, cv2, R, hL⟩ := hrel
    by_cases hka : k < al
    · have hkz : (k : Int) < (al : Int) := by omega
      by_cases hk40 : k < 40
      · as_aux_lemma =>
        have hk6 : (k : Int) < 40 := by omega
        obtain ⟨b, o, rfl, hbw, q0, q1, q2, q3⟩ := HD.out wr hL.bE.frm k (by rw [HAL.out]; exact hka)
        obtain ⟨d, hd⟩ : ∃ d, l[k]'(by rw [HAL.out]; exact hka) = d := ⟨_, rfl⟩
        have HDD : Hid (∀ w1, Frm No w w1 → w1.cell? ⟨b, o + k * 4, none⟩ = some (.int .i64 d.what) ∧ w1.cell? ⟨b, o + k * 4 + 1, none⟩ = some (.string ⟨d.a.toArray⟩) ∧ w1.cell? ⟨b, o + k * 4 + 2, none⟩ = some (.string ⟨d.b.toArray⟩) ∧ w1.cell? ⟨b, o + k * 4 + 3, none⟩ = some (.int .i64 d.n)) := hid (fun w1 hf => by
          obtain ⟨b', o', he, -, h0, h1, h2, h3⟩ := HD.out w1 hf k (by rw [HAL.out]; exact hka)
          cases he
          simp only [hd] at h0 h1 h2 h3
          exact ⟨h0, h1, h2, h3⟩)
        simp only [hd] at q0 q1 q2 q3
        clear hd HD
        have HL := hid (fun w1 => HLG.out w1 d)
        obtain ⟨lg, hlg⟩ : ∃ lg, decide (200 < d.a.length ∨ 200 < d.b.length) = lg := ⟨_, rfl⟩
        rw [hlg] at HL
        have HLI := hid hL
        cases lg
        case true =>
          clear hlg hL
          obtain ⟨x, da, db, dn⟩ := d
          dsimp only at q0 q1 q2 q3 HL
          go_wp2_with (go_at_call 5; refine (HL.out _).mono ?_; rintro e w2 ⟨rfl, hf2⟩)
          go_ret
          exact ⟨rfl, HLI.out.bE.frm.thenNo hf2⟩
        case false =>
          have hda : d.a.length ≤ 200 := by
            simp only [decide_eq_false_iff_not, not_or] at hlg
            omega
          have hI := hL.inv
          have HINV := hid (inv_deed hI d)
          have HDK := hid (fun w1 mv cv (hr : RlR w1 mv cv R) => HDO.out w1 mv cv R d hr hI hda)
          have HDN2 := hid (fun w1 mv cv (hr : RlR w1 mv cv R) => HDN.out w1 mv cv R d hr hI hda)
          obtain ⟨res, hres⟩ : ∃ res, deed R d = res := ⟨_, rfl⟩
          rw [hres] at HDK HDN2 HINV
          clear hres hlg hI hL
          obtain ⟨R2, er⟩ := res
          obtain ⟨x, da, db, dn⟩ := d
          dsimp only at q0 q1 q2 q3 HL HDK HDN2 HINV hda HDD
          go_upto_region 10 with (go_at_call 5; refine (HL.out _).mono ?_; rintro e w2 ⟨rfl, hf2⟩)
          clear q0 q1 q2 q3
          have hL2 := HLI.out.no hf2
          have HLJ := hid hL2
          clear HLI HL HDO HDN HLG hf2
          obtain ⟨ma, ml, mc, ca, cl, cc, rfl, rfl⟩ := hL2.rE.any
          obtain ⟨ma2, ml2, mc2, ca2, cl2, cc2, rfl, rfl⟩ := hL2.rG.any
          -- the code's deed
          have HF := hid hL2.bE.frm
          have HRE := hid hL2.rE
          have c0 := hL2.bE.cell 0
          have c1 := hL2.bE.cell 1
          simp only [List.getElem?_cons_zero, List.getElem?_cons_succ] at c0 c1
          have hbw2 : b < w2.heap.size := by have := HF.out.size; omega
          have hE2 := hL2.bE.lC
          obtain ⟨q0, q1, q2, q3⟩ := HDD.out w2 HF.out
          have SK : Hid (∀ w', Frm No w2 w' → w'.cell? ⟨E, 0, none⟩ = some (.slice ma ml mc) ∧ w'.cell? ⟨E, 1, none⟩ = some (.slice ca cl cc) ∧ w'.cell? ⟨b, o + k * 4, none⟩ = some (.int .i64 x) ∧ w'.cell? ⟨b, o + k * 4 + 1, none⟩ = some (.string ⟨da.toArray⟩) ∧ w'.cell? ⟨b, o + k * 4 + 2, none⟩ = some (.string ⟨db.toArray⟩) ∧ w'.cell? ⟨b, o + k * 4 + 3, none⟩ = some (.int .i64 dn)) := hid fun w' hf => ⟨(hf.cell (p := ⟨E, 0, none⟩) hE2 (fun h => h)).trans c0, (hf.cell (p := ⟨E, 1, none⟩) hE2 (fun h => h)).trans c1, (hf.cell (p := ⟨b, o + k * 4, none⟩) hbw2 (fun h => h)).trans q0, (hf.cell (p := ⟨b, o + k * 4 + 1, none⟩) hbw2 (fun h => h)).trans q1, (hf.cell (p := ⟨b, o + k * 4 + 2, none⟩) hbw2 (fun h => h)).trans q2, (hf.cell (p := ⟨b, o + k * 4 + 3, none⟩) hbw2 (fun h => h)).trans q3⟩
          have HDK2 := hid (fun w1 (hf : Frm No w2 w1) => HDK.out w1 _ _ (HRE.out.no hf))
          clear hL2 c0 c1 q0 q1 q2 q3 HDK
          go_cut [6, 7] from 39 to 47 (fun p q wq => OutR w w2 R2 (.int .i64 er) p q wq)
          case first =>
            as_aux_lemma =>
              refine wp_region_late (fun w' => w'.cell? ⟨E, 0, none⟩ = some (.slice ma ml mc) ∧ w'.cell? ⟨E, 1, none⟩ = some (.slice ca cl cc) ∧ w'.cell? ⟨b, o + k * 4, none⟩ = some (.int .i64 x) ∧ w'.cell? ⟨b, o + k * 4 + 1, none⟩ = some (.string ⟨da.toArray⟩) ∧ w'.cell? ⟨b, o + k * 4 + 2, none⟩ = some (.string ⟨db.toArray⟩) ∧ w'.cell? ⟨b, o + k * 4 + 3, none⟩ = some (.int .i64 dn)) [10] (by kernel_rfl) (SK.out _ (Frm.refl _ _).drew) (fun hHeld => ?_)
              refine wpLate_take [5, 6, 7, 8, 10, 11] (i := 0) (oi := _) (v := _) rfl (by kernel_rfl) (by kernel_rfl) (by kernel_rfl) (by kernel_rfl) (by kernel_rfl) (fun _ _ _ h => h) (Or.inl ⟨by rfl, by intro w hSw; (try dsimp only at hSw); go_simp; all_goals with_reducible rfl⟩) (by assumption) ?_
              (try simp only [Act.put, List.getElem_toArray, List.getElem_cons_zero, List.setIfInBounds_toArray, List.set_cons_zero, List.set_cons_succ])
              refine wpLate_take0 (i := 1) (oi := _) (v := _) rfl (by kernel_rfl) (by kernel_rfl) (by kernel_rfl) (by kernel_rfl) (fun _ _ _ h => h) (Or.inl ⟨by rfl, by intro w _; go_simp; all_goals with_reducible rfl⟩) (fun _ => by assumption) ?_
              (try simp only [Act.put, List.getElem_toArray, List.getElem_cons_succ, List.getElem_cons_zero, List.setIfInBounds_toArray, List.set_cons_zero, List.set_cons_succ])
              refine wpLate_take0 (i := 2) (oi := _) (v := _) rfl (by kernel_rfl) (by kernel_rfl) (by kernel_rfl) (by kernel_rfl) (fun _ _ _ h => h) (Or.inl ⟨by rfl, by intro w _; go_simp; all_goals with_reducible rfl⟩) (fun _ => by assumption) ?_
              (try simp only [Act.put, List.getElem_toArray, List.getElem_cons_succ, List.getElem_cons_zero, List.setIfInBounds_toArray, List.set_cons_zero, List.set_cons_succ])
              refine wpLate_take0 (i := 3) (oi := _) (v := _) rfl (by kernel_rfl) (by kernel_rfl) (by kernel_rfl) (by kernel_rfl) (fun _ _ _ h => h) (Or.inl ⟨by rfl, by intro w _; go_simp; all_goals with_reducible rfl⟩) (fun _ => by assumption) ?_
              (try simp only [Act.put, List.getElem_toArray, List.getElem_cons_succ, List.getElem_cons_zero, List.setIfInBounds_toArray, List.set_cons_zero, List.set_cons_succ])
              refine wpLate_take [5, 6, 7, 8, 10, 11] (i := 4) (oi := _) (v := _) rfl (by kernel_rfl) (by kernel_rfl) (by kernel_rfl) (by kernel_rfl) (by kernel_rfl) (fun _ _ _ h => h) (Or.inl ⟨by rfl, by intro w hSw; (try dsimp only at hSw); go_simp; all_goals with_reducible rfl⟩) (by assumption) ?_
              (try simp only [Act.put, List.getElem_toArray, List.getElem_cons_succ, List.getElem_cons_zero, List.setIfInBounds_toArray, List.set_cons_zero, List.set_cons_succ])
              refine wpLate_ready (rs := [5, 9]) (by kernel_rfl) (by simp) ?_
              refine (AllReadyL.cons (i := 5) rfl (fun K hK => ?_) (AllReadyL.cons (i := 9) rfl (fun K hK => ?_) AllReadyL.nil))
              · simp only [List.getElem_toArray, List.getElem_cons_succ, List.getElem_cons_zero]
                go_simp
                refine (HDK2.out _ (Frm.refl No w2).drew).mono ?_; rintro e wa ⟨mv3, cv3, rfl, hra, hfa0⟩; obtain ⟨a3, l3, c3, a4, l4, c4, rfl, rfl⟩ := hra.any; have hfa := (Frm.refl No w2).drew.thenNo hfa0
                refine hK.out _ _ (SK.out _ hfa) (fun hHeld => ?_)
                clear hK K
                (try simp only)
                refine wpLate_take0 (i := 6) (oi := _) (v := _) rfl (by kernel_rfl) (by kernel_rfl) (by kernel_rfl) (by kernel_rfl) (fun _ _ _ h => h) (Or.inl ⟨by rfl, by intro w _; go_simp; all_goals with_reducible rfl⟩) (fun _ => by assumption) ?_
                (try simp only [Act.put, List.getElem_toArray, List.getElem_cons_succ, List.getElem_cons_zero, List.setIfInBounds_toArray, List.set_cons_zero, List.set_cons_succ])
                refine wpLate_take0 (i := 7) (oi := _) (v := _) rfl (by kernel_rfl) (by kernel_rfl) (by kernel_rfl) (by kernel_rfl) (fun _ _ _ h => h) (Or.inl ⟨by rfl, by intro w _; go_simp; all_goals with_reducible rfl⟩) (fun _ => by assumption) ?_
                (try simp only [Act.put, List.getElem_toArray, List.getElem_cons_succ, List.getElem_cons_zero, List.setIfInBounds_toArray, List.set_cons_zero, List.set_cons_succ])
                refine wpLate_take0 (i := 8) (oi := _) (v := _) rfl (by kernel_rfl) (by kernel_rfl) (by kernel_rfl) (by kernel_rfl) (fun _ _ _ h => h) (Or.inl ⟨by rfl, by intro w _; go_simp; all_goals with_reducible rfl⟩) (fun _ => by assumption) ?_
                (try simp only [Act.put, List.getElem_toArray, List.getElem_cons_succ, List.getElem_cons_zero, List.setIfInBounds_toArray, List.set_cons_zero, List.set_cons_succ])
                refine wpLate_ready (rs := [9]) (by kernel_rfl) (by simp) ?_
                refine (AllReadyL.cons (i := 9) rfl (fun K hK => ?_) AllReadyL.nil)
                simp only [List.getElem_toArray, List.getElem_cons_succ, List.getElem_cons_zero]
                go_simp
                refine hK.out _ _ (SK.out _ (hfa.alloc _)) (fun hHeld => ?_)
                clear hK K
                (try simp only [Act.put, List.getElem_toArray, List.getElem_cons_succ, List.getElem_cons_zero, List.setIfInBounds_toArray, List.set_cons_zero, List.set_cons_succ])
                refine wpLate_ready (rs := [10]) (by kernel_rfl) (by simp) ?_
                refine (AllReadyL.late (i := 10) rfl (by kernel_rfl) (fun K hK => ?_) AllReadyL.nil)
                simp only [List.getElem_toArray, List.getElem_cons_succ, List.getElem_cons_zero]
                go_simp
                refine hK.out _ _ ?_
                clear hK K
                (try simp only [Act.put, List.getElem_toArray, List.getElem_cons_succ, List.getElem_cons_zero, List.setIfInBounds_toArray, List.set_cons_zero, List.set_cons_succ])
                refine wpLate_ready (rs := [11]) (by kernel_rfl) (by simp) ?_
                refine (AllReadyL.late (i := 11) rfl (by kernel_rfl) (fun K hK => ?_) AllReadyL.nil)
                simp only [List.getElem_toArray, List.getElem_cons_succ, List.getElem_cons_zero]
                go_simp
                refine hK.out _ _ ?_
                clear hK K
                (try simp only [Act.put, List.getElem_toArray, List.getElem_cons_succ, List.getElem_cons_zero, List.setIfInBounds_toArray, List.set_cons_zero, List.set_cons_succ])
                refine wpLate_done (by kernel_rfl) ?_ _
                dsimp only [Exit.then]; go_step; go_meet
                exact outr_end1 HF.out hfa hra
              · simp only [List.getElem_toArray, List.getElem_cons_succ, List.getElem_cons_zero]
                go_simp
                refine hK.out _ _ (SK.out _ ((Frm.refl No _).drew.alloc _)) (fun hHeld => ?_)
                clear hK K
                (try simp only [Act.put, List.getElem_toArray, List.getElem_cons_succ, List.getElem_cons_zero, List.setIfInBounds_toArray, List.set_cons_zero, List.set_cons_succ])
                refine wpLate_ready (rs := [5]) (by kernel_rfl) (by simp) ?_
                refine (AllReadyL.cons (i := 5) rfl (fun K hK => ?_) AllReadyL.nil)
                simp only [List.getElem_toArray, List.getElem_cons_succ, List.getElem_cons_zero]
                go_simp
                refine (HDK2.out _ ((Frm.refl No w2).drew.alloc _)).mono ?_; rintro e wb ⟨mv3, cv3, rfl, hra, hfb0⟩; obtain ⟨a3, l3, c3, a4, l4, c4, rfl, rfl⟩ := hra.any; have hfb := ((Frm.refl No w2).drew.alloc _).thenNo hfb0; have BXb := (Box.new (HF.out.drew) [.slice none 0 0, .slice none 0 0] 27).no hfb0
                refine hK.out _ _ (SK.out _ hfb) (fun hHeld => ?_)
                clear hK K
                (try simp only)
                refine wpLate_take0 (i := 6) (oi := _) (v := _) rfl (by kernel_rfl) (by kernel_rfl) (by kernel_rfl) (by kernel_rfl) (fun _ _ _ h => h) (Or.inl ⟨by rfl, by intro w _; go_simp; all_goals with_reducible rfl⟩) (fun _ => by assumption) ?_
                (try simp only [Act.put, List.getElem_toArray, List.getElem_cons_succ, List.getElem_cons_zero, List.setIfInBounds_toArray, List.set_cons_zero, List.set_cons_succ])
                refine wpLate_take0 (i := 7) (oi := _) (v := _) rfl (by kernel_rfl) (by kernel_rfl) (by kernel_rfl) (by kernel_rfl) (fun _ _ _ h => h) (Or.inl ⟨by rfl, by intro w _; go_simp; all_goals with_reducible rfl⟩) (fun _ => by assumption) ?_
                (try simp only [Act.put, List.getElem_toArray, List.getElem_cons_succ, List.getElem_cons_zero, List.setIfInBounds_toArray, List.set_cons_zero, List.set_cons_succ])
                refine wpLate_take0 (i := 8) (oi := _) (v := _) rfl (by kernel_rfl) (by kernel_rfl) (by kernel_rfl) (by kernel_rfl) (fun _ _ _ h => h) (Or.inl ⟨by rfl, by intro w _; go_simp; all_goals with_reducible rfl⟩) (fun _ => by assumption) ?_
                (try simp only [Act.put, List.getElem_toArray, List.getElem_cons_succ, List.getElem_cons_zero, List.setIfInBounds_toArray, List.set_cons_zero, List.set_cons_succ])
                have cX : ∀ j, wb.cell? ⟨w2.heap.size, j, none⟩ = ([.slice none 0 0, .slice none 0 0] : List Value)[j]? := BXb.cell
                have fX : ∀ j, wb.frozen? ⟨w2.heap.size, j, none⟩ = false := BXb.fr
                refine wpLate_ready (rs := [10]) (by kernel_rfl) (by simp) ?_
                refine (AllReadyL.late (i := 10) rfl (by kernel_rfl) (fun K hK => ?_) AllReadyL.nil)
                simp only [List.getElem_toArray, List.getElem_cons_succ, List.getElem_cons_zero]
                go_simp
                refine hK.out _ _ ?_
                clear hK K
                (try simp only [Act.put, List.getElem_toArray, List.getElem_cons_succ, List.getElem_cons_zero, List.setIfInBounds_toArray, List.set_cons_zero, List.set_cons_succ])
                refine wpLate_ready (rs := [11]) (by kernel_rfl) (by simp) ?_
                refine (AllReadyL.late (i := 11) rfl (by kernel_rfl) (fun K hK => ?_) AllReadyL.nil)
                simp only [List.getElem_toArray, List.getElem_cons_succ, List.getElem_cons_zero]
                go_simp
                refine hK.out _ _ ?_
                clear hK K
                (try simp only [Act.put, List.getElem_toArray, List.getElem_cons_succ, List.getElem_cons_zero, List.setIfInBounds_toArray, List.set_cons_zero, List.set_cons_succ])
                refine wpLate_done (by kernel_rfl) ?_ _
                dsimp only [Exit.then]; go_step; go_meet
                exact outr_end2 (F := w2.heap.size) BXb hfb (Nat.le_refl _) hra
          case rest =>
            as_aux_lemma =>
            obtain ⟨mv3, cv3, ⟨F1, rfl, rfl, BF1, hf3, hF1⟩, HR3⟩ := hcut
            obtain ⟨w3, rfl⟩ : ∃ w3, w3 = wc := ⟨_, rfl⟩
            clear SK HDK2 HRE HF
            have hL3 := HLJ.out.no hf3
            have HEF1 : Hid (E ≠ F1 ∧ G ≠ F1) := hid (by have := HLJ.out.bE.lC; have := HLJ.out.bG.lC; omega)
            clear HLJ hf3 hF1 hE2 hbw2
            have HLJ := hid hL3
            have HBF1 := hid BF1
            have HR3 := hid HR3
            -- the reference's deed
            have HF := hid hL3.bE.frm
            have HRE := hid hL3.rG
            have c0 := hL3.bG.cell 0
            have c1 := hL3.bG.cell 1
            simp only [List.getElem?_cons_zero, List.getElem?_cons_succ] at c0 c1
            have hbw3 : b < w3.heap.size := by have := HF.out.size; omega
            have hE3 := hL3.bG.lC
            obtain ⟨q0, q1, q2, q3⟩ := HDD.out w3 HF.out
            have SK : Hid (∀ w', Frm No w3 w' → w'.cell? ⟨G, 0, none⟩ = some (.slice ma2 ml2 mc2) ∧ w'.cell? ⟨G, 1, none⟩ = some (.slice ca2 cl2 cc2) ∧ w'.cell? ⟨b, o + k * 4, none⟩ = some (.int .i64 x) ∧ w'.cell? ⟨b, o + k * 4 + 1, none⟩ = some (.string ⟨da.toArray⟩) ∧ w'.cell? ⟨b, o + k * 4 + 2, none⟩ = some (.string ⟨db.toArray⟩) ∧ w'.cell? ⟨b, o + k * 4 + 3, none⟩ = some (.int .i64 dn)) := hid fun w' hf => ⟨(hf.cell (p := ⟨G, 0, none⟩) hE3 (fun h => h)).trans c0, (hf.cell (p := ⟨G, 1, none⟩) hE3 (fun h => h)).trans c1, (hf.cell (p := ⟨b, o + k * 4, none⟩) hbw3 (fun h => h)).trans q0, (hf.cell (p := ⟨b, o + k * 4 + 1, none⟩) hbw3 (fun h => h)).trans q1, (hf.cell (p := ⟨b, o + k * 4 + 2, none⟩) hbw3 (fun h => h)).trans q2, (hf.cell (p := ⟨b, o + k * 4 + 3, none⟩) hbw3 (fun h => h)).trans q3⟩
            have HDK2 := hid (fun w1 (hf : Frm No w3 w1) => HDN2.out w1 _ _ (HRE.out.no hf))
            clear hL3 BF1 c0 c1 q0 q1 q2 q3 HDN2
            go_upto_region 11 with fail
            go_cut [8, 9] from 48 to 56 (fun p q wq => OutR w w3 R2 (.int .i64 er) p q wq)
            case first =>
              as_aux_lemma =>
                refine wp_region_late (fun w' => w'.cell? ⟨G, 0, none⟩ = some (.slice ma2 ml2 mc2) ∧ w'.cell? ⟨G, 1, none⟩ = some (.slice ca2 cl2 cc2) ∧ w'.cell? ⟨b, o + k * 4, none⟩ = some (.int .i64 x) ∧ w'.cell? ⟨b, o + k * 4 + 1, none⟩ = some (.string ⟨da.toArray⟩) ∧ w'.cell? ⟨b, o + k * 4 + 2, none⟩ = some (.string ⟨db.toArray⟩) ∧ w'.cell? ⟨b, o + k * 4 + 3, none⟩ = some (.int .i64 dn)) [10] (by kernel_rfl) (SK.out _ (Frm.refl _ _).drew) (fun hHeld => ?_)
                refine wpLate_take [5, 6, 7, 8, 10, 11] (i := 0) (oi := _) (v := _) rfl (by kernel_rfl) (by kernel_rfl) (by kernel_rfl) (by kernel_rfl) (by kernel_rfl) (fun _ _ _ h => h) (Or.inl ⟨by rfl, by intro w hSw; (try dsimp only at hSw); go_simp; all_goals with_reducible rfl⟩) (by assumption) ?_
                (try simp only [Act.put, List.getElem_toArray, List.getElem_cons_zero, List.setIfInBounds_toArray, List.set_cons_zero, List.set_cons_succ])
                refine wpLate_take0 (i := 1) (oi := _) (v := _) rfl (by kernel_rfl) (by kernel_rfl) (by kernel_rfl) (by kernel_rfl) (fun _ _ _ h => h) (Or.inl ⟨by rfl, by intro w _; go_simp; all_goals with_reducible rfl⟩) (fun _ => by assumption) ?_
                (try simp only [Act.put, List.getElem_toArray, List.getElem_cons_succ, List.getElem_cons_zero, List.setIfInBounds_toArray, List.set_cons_zero, List.set_cons_succ])
                refine wpLate_take0 (i := 2) (oi := _) (v := _) rfl (by kernel_rfl) (by kernel_rfl) (by kernel_rfl) (by kernel_rfl) (fun _ _ _ h => h) (Or.inl ⟨by rfl, by intro w _; go_simp; all_goals with_reducible rfl⟩) (fun _ => by assumption) ?_
                (try simp only [Act.put, List.getElem_toArray, List.getElem_cons_succ, List.getElem_cons_zero, List.setIfInBounds_toArray, List.set_cons_zero, List.set_cons_succ])
                refine wpLate_take0 (i := 3) (oi := _) (v := _) rfl (by kernel_rfl) (by kernel_rfl) (by kernel_rfl) (by kernel_rfl) (fun _ _ _ h => h) (Or.inl ⟨by rfl, by intro w _; go_simp; all_goals with_reducible rfl⟩) (fun _ => by assumption) ?_
                (try simp only [Act.put, List.getElem_toArray, List.getElem_cons_succ, List.getElem_cons_zero, List.setIfInBounds_toArray, List.set_cons_zero, List.set_cons_succ])
                refine wpLate_take [5, 6, 7, 8, 10, 11] (i := 4) (oi := _) (v := _) rfl (by kernel_rfl) (by kernel_rfl) (by kernel_rfl) (by kernel_rfl) (by kernel_rfl) (fun _ _ _ h => h) (Or.inl ⟨by rfl, by intro w hSw; (try dsimp only at hSw); go_simp; all_goals with_reducible rfl⟩) (by assumption) ?_
                (try simp only [Act.put, List.getElem_toArray, List.getElem_cons_succ, List.getElem_cons_zero, List.setIfInBounds_toArray, List.set_cons_zero, List.set_cons_succ])
                refine wpLate_ready (rs := [5, 9]) (by kernel_rfl) (by simp) ?_
                refine (AllReadyL.cons (i := 5) rfl (fun K hK => ?_) (AllReadyL.cons (i := 9) rfl (fun K hK => ?_) AllReadyL.nil))
                · simp only [List.getElem_toArray, List.getElem_cons_succ, List.getElem_cons_zero]
                  go_simp
                  refine (HDK2.out _ (Frm.refl No w3).drew).mono ?_; rintro e wa ⟨mv3, cv3, rfl, hra, hfa0⟩; obtain ⟨a3, l3, c3, a4, l4, c4, rfl, rfl⟩ := hra.any; have hfa := (Frm.refl No w3).drew.thenNo hfa0
                  refine hK.out _ _ (SK.out _ hfa) (fun hHeld => ?_)
                  clear hK K
                  (try simp only)
                  refine wpLate_take0 (i := 6) (oi := _) (v := _) rfl (by kernel_rfl) (by kernel_rfl) (by kernel_rfl) (by kernel_rfl) (fun _ _ _ h => h) (Or.inl ⟨by rfl, by intro w _; go_simp; all_goals with_reducible rfl⟩) (fun _ => by assumption) ?_
                  (try simp only [Act.put, List.getElem_toArray, List.getElem_cons_succ, List.getElem_cons_zero, List.setIfInBounds_toArray, List.set_cons_zero, List.set_cons_succ])
                  refine wpLate_take0 (i := 7) (oi := _) (v := _) rfl (by kernel_rfl) (by kernel_rfl) (by kernel_rfl) (by kernel_rfl) (fun _ _ _ h => h) (Or.inl ⟨by rfl, by intro w _; go_simp; all_goals with_reducible rfl⟩) (fun _ => by assumption) ?_
                  (try simp only [Act.put, List.getElem_toArray, List.getElem_cons_succ, List.getElem_cons_zero, List.setIfInBounds_toArray, List.set_cons_zero, List.set_cons_succ])
                  refine wpLate_take0 (i := 8) (oi := _) (v := _) rfl (by kernel_rfl) (by kernel_rfl) (by kernel_rfl) (by kernel_rfl) (fun _ _ _ h => h) (Or.inl ⟨by rfl, by intro w _; go_simp; all_goals with_reducible rfl⟩) (fun _ => by assumption) ?_
                  (try simp only [Act.put, List.getElem_toArray, List.getElem_cons_succ, List.getElem_cons_zero, List.setIfInBounds_toArray, List.set_cons_zero, List.set_cons_succ])
                  refine wpLate_ready (rs := [9]) (by kernel_rfl) (by simp) ?_
                  refine (AllReadyL.cons (i := 9) rfl (fun K hK => ?_) AllReadyL.nil)
                  simp only [List.getElem_toArray, List.getElem_cons_succ, List.getElem_cons_zero]
                  go_simp
                  refine hK.out _ _ (SK.out _ (hfa.alloc _)) (fun hHeld => ?_)
                  clear hK K
                  (try simp only [Act.put, List.getElem_toArray, List.getElem_cons_succ, List.getElem_cons_zero, List.setIfInBounds_toArray, List.set_cons_zero, List.set_cons_succ])
                  refine wpLate_ready (rs := [10]) (by kernel_rfl) (by simp) ?_
                  refine (AllReadyL.late (i := 10) rfl (by kernel_rfl) (fun K hK => ?_) AllReadyL.nil)
                  simp only [List.getElem_toArray, List.getElem_cons_succ, List.getElem_cons_zero]
                  go_simp
                  refine hK.out _ _ ?_
                  clear hK K
                  (try simp only [Act.put, List.getElem_toArray, List.getElem_cons_succ, List.getElem_cons_zero, List.setIfInBounds_toArray, List.set_cons_zero, List.set_cons_succ])
                  refine wpLate_ready (rs := [11]) (by kernel_rfl) (by simp) ?_
                  refine (AllReadyL.late (i := 11) rfl (by kernel_rfl) (fun K hK => ?_) AllReadyL.nil)
                  simp only [List.getElem_toArray, List.getElem_cons_succ, List.getElem_cons_zero]
                  go_simp
                  refine hK.out _ _ ?_
                  clear hK K
                  (try simp only [Act.put, List.getElem_toArray, List.getElem_cons_succ, List.getElem_cons_zero, List.setIfInBounds_toArray, List.set_cons_zero, List.set_cons_succ])
                  refine wpLate_done (by kernel_rfl) ?_ _
                  dsimp only [Exit.then]; go_step; go_meet
                  exact outr_end1 HF.out hfa hra
                · simp only [List.getElem_toArray, List.getElem_cons_succ, List.getElem_cons_zero]
                  go_simp
                  refine hK.out _ _ (SK.out _ ((Frm.refl No _).drew.alloc _)) (fun hHeld => ?_)
                  clear hK K
                  (try simp only [Act.put, List.getElem_toArray, List.getElem_cons_succ, List.getElem_cons_zero, List.setIfInBounds_toArray, List.set_cons_zero, List.set_cons_succ])
                  refine wpLate_ready (rs := [5]) (by kernel_rfl) (by simp) ?_
                  refine (AllReadyL.cons (i := 5) rfl (fun K hK => ?_) AllReadyL.nil)
                  simp only [List.getElem_toArray, List.getElem_cons_succ, List.getElem_cons_zero]
                  go_simp
                  refine (HDK2.out _ ((Frm.refl No w3).drew.alloc _)).mono ?_; rintro e wb ⟨mv3, cv3, rfl, hra, hfb0⟩; obtain ⟨a3, l3, c3, a4, l4, c4, rfl, rfl⟩ := hra.any; have hfb := ((Frm.refl No w3).drew.alloc _).thenNo hfb0; have BXb := (Box.new (HF.out.drew) [.slice none 0 0, .slice none 0 0] 31).no hfb0
                  refine hK.out _ _ (SK.out _ hfb) (fun hHeld => ?_)
                  clear hK K
                  (try simp only)
                  refine wpLate_take0 (i := 6) (oi := _) (v := _) rfl (by kernel_rfl) (by kernel_rfl) (by kernel_rfl) (by kernel_rfl) (fun _ _ _ h => h) (Or.inl ⟨by rfl, by intro w _; go_simp; all_goals with_reducible rfl⟩) (fun _ => by assumption) ?_
                  (try simp only [Act.put, List.getElem_toArray, List.getElem_cons_succ, List.getElem_cons_zero, List.setIfInBounds_toArray, List.set_cons_zero, List.set_cons_succ])
                  refine wpLate_take0 (i := 7) (oi := _) (v := _) rfl (by kernel_rfl) (by kernel_rfl) (by kernel_rfl) (by kernel_rfl) (fun _ _ _ h => h) (Or.inl ⟨by rfl, by intro w _; go_simp; all_goals with_reducible rfl⟩) (fun _ => by assumption) ?_
                  (try simp only [Act.put, List.getElem_toArray, List.getElem_cons_succ, List.getElem_cons_zero, List.setIfInBounds_toArray, List.set_cons_zero, List.set_cons_succ])
                  refine wpLate_take0 (i := 8) (oi := _) (v := _) rfl (by kernel_rfl) (by kernel_rfl) (by kernel_rfl) (by kernel_rfl) (fun _ _ _ h => h) (Or.inl ⟨by rfl, by intro w _; go_simp; all_goals with_reducible rfl⟩) (fun _ => by assumption) ?_
                  (try simp only [Act.put, List.getElem_toArray, List.getElem_cons_succ, List.getElem_cons_zero, List.setIfInBounds_toArray, List.set_cons_zero, List.set_cons_succ])
                  have cX : ∀ j, wb.cell? ⟨w3.heap.size, j, none⟩ = ([.slice none 0 0, .slice none 0 0] : List Value)[j]? := BXb.cell
                  have fX : ∀ j, wb.frozen? ⟨w3.heap.size, j, none⟩ = false := BXb.fr
                  refine wpLate_ready (rs := [10]) (by kernel_rfl) (by simp) ?_
                  refine (AllReadyL.late (i := 10) rfl (by kernel_rfl) (fun K hK => ?_) AllReadyL.nil)
                  simp only [List.getElem_toArray, List.getElem_cons_succ, List.getElem_cons_zero]
                  go_simp
                  refine hK.out _ _ ?_
                  clear hK K
                  (try simp only [Act.put, List.getElem_toArray, List.getElem_cons_succ, List.getElem_cons_zero, List.setIfInBounds_toArray, List.set_cons_zero, List.set_cons_succ])
                  refine wpLate_ready (rs := [11]) (by kernel_rfl) (by simp) ?_
                  refine (AllReadyL.late (i := 11) rfl (by kernel_rfl) (fun K hK => ?_) AllReadyL.nil)
                  simp only [List.getElem_toArray, List.getElem_cons_succ, List.getElem_cons_zero]
                  go_simp
                  refine hK.out _ _ ?_
                  clear hK K
                  (try simp only [Act.put, List.getElem_toArray, List.getElem_cons_succ, List.getElem_cons_zero, List.setIfInBounds_toArray, List.set_cons_zero, List.set_cons_succ])
                  refine wpLate_done (by kernel_rfl) ?_ _
                  dsimp only [Exit.then]; go_step; go_meet
                  exact outr_end2 (F := w3.heap.size) BXb hfb (Nat.le_refl _) hra
            case rest =>
              as_aux_lemma =>
              obtain ⟨mv4, cv4, ⟨F2, rfl, rfl, BF2, hf4, hF2⟩, hR4⟩ := hcut
              obtain ⟨w4, rfl⟩ : ∃ w4, w4 = wc := ⟨_, rfl⟩
              have hL4 := HLJ.out.no hf4
              have BF1 := HBF1.out.no hf4
              have hR3 := HR3.out.no hf4
              have HEF2 : Hid (E ≠ F2 ∧ G ≠ F2) := hid (by have := HLJ.out.bE.lC; have := HLJ.out.bG.lC; omega)
              clear SK HDK2 HRE HF HLJ HBF1 HR3 hf4 hF2 hE3 hbw3
              obtain ⟨a3, l3, c3, a4, l4, c4, rfl, rfl⟩ := hR3.any
              obtain ⟨a5, l5, c5, a6, l6, c6, rfl, rfl⟩ := hR4.any
              have HSM1 := hid (fun w1 (hf : Frm No w4 w1) => same_any R2 _ _ _ _ w1 (hR3.no hf) (hR4.no hf) HINV.out)
              have HSM2 := hid (fun w1 (hf : Frm No w4 w1) => same_any R _ _ _ _ w1 (hL4.rE.no hf) (hL4.rG.no hf) hL4.inv)
              have HL4 := hid hL4
              have HBF1 := hid BF1
              have HBF2 := hid BF2
              have HR3 := hid hR3
              have HR4 := hid hR4
              have k1 := BF1.cell
              have k2 := BF2.cell
              clear hL4 BF1 BF2 hR3 hR4
              have hfl : Hid True := hid trivial
              go_upto_if 73 with (first | (go_at_call 8; clear hfl; refine (HSM1.out _ (Frm.refl No w4)).mono ?_; rintro e w5 ⟨rfl, hf5⟩; have k3 := (HL4.out.bE.no hf5).cell; have k4 := (HL4.out.bG.no hf5).cell) | (go_at_call 8; refine (HSM2.out _ hf5).mono ?_; rintro e w6 ⟨rfl, hf6⟩))
              have hf46 := hf5.thenNo hf6
              have hL6 := HL4.out.no hf46
              have hB1 := HBF1.out.no hf46
              have hB2 := HBF2.out.no hf46
              have HR3b := hid (HR3.out.no hf46)
              have HR4b := hid (HR4.out.no hf46)
              have HL6 := hid hL6
              clear k1 k2 k3 k4 HSM1 HSM2 HL4 HBF1 HBF2 HR3 HR4 hf5 hf6 hf46
              go_cut [] from 74 to 75 (fun wq => KpI w E G wq)
              case first =>
                as_aux_lemma =>
                by_cases her : er = 0
                · as_aux_lemma =>
                  subst her
                  have c0 := hB1.cell 0
                  have c1 := hB1.cell 1
                  have c2 := hB2.cell 0
                  have c3' := hB2.cell 1
                  simp only [List.getElem?_cons_zero, List.getElem?_cons_succ] at c0 c1 c2 c3'
                  have hl1 := hB1.lC
                  have hl2 := hB2.lC
                  have SK : Hid (∀ w', Frm No w6 w' → w'.cell? ⟨F1, 0, none⟩ = some (.slice a3 l3 c3) ∧ w'.cell? ⟨F1, 1, none⟩ = some (.slice a4 l4 c4) ∧ w'.cell? ⟨F2, 0, none⟩ = some (.slice a5 l5 c5) ∧ w'.cell? ⟨F2, 1, none⟩ = some (.slice a6 l6 c6)) := hid fun w' hf => ⟨(hf.cell (p := ⟨F1, 0, none⟩) hl1 (fun h => h)).trans c0, (hf.cell (p := ⟨F1, 1, none⟩) hl1 (fun h => h)).trans c1, (hf.cell (p := ⟨F2, 0, none⟩) hl2 (fun h => h)).trans c2, (hf.cell (p := ⟨F2, 1, none⟩) hl2 (fun h => h)).trans c3'⟩
                  have SKX : Hid (∀ w', Frm (fun k => k = E ∨ k = G) w6 w' → w'.cell? ⟨F1, 0, none⟩ = some (.slice a3 l3 c3) ∧ w'.cell? ⟨F1, 1, none⟩ = some (.slice a4 l4 c4) ∧ w'.cell? ⟨F2, 0, none⟩ = some (.slice a5 l5 c5) ∧ w'.cell? ⟨F2, 1, none⟩ = some (.slice a6 l6 c6)) := hid fun w' hf => ⟨(hf.cell (p := ⟨F1, 0, none⟩) hl1 (fun h => h.elim (fun e => HEF1.out.1 e.symm) (fun e => HEF1.out.2 e.symm))).trans c0, (hf.cell (p := ⟨F1, 1, none⟩) hl1 (fun h => h.elim (fun e => HEF1.out.1 e.symm) (fun e => HEF1.out.2 e.symm))).trans c1, (hf.cell (p := ⟨F2, 0, none⟩) hl2 (fun h => h.elim (fun e => HEF2.out.1 e.symm) (fun e => HEF2.out.2 e.symm))).trans c2, (hf.cell (p := ⟨F2, 1, none⟩) hl2 (fun h => h.elim (fun e => HEF2.out.1 e.symm) (fun e => HEF2.out.2 e.symm))).trans c3'⟩
                  have FE : ∀ x y, Frm (fun k => k = E ∨ k = G) w6 ((w6.setCell ⟨E, 0, none⟩ x).setCell ⟨E, 1, none⟩ y) := fun x y => ((setCell_own x).then_ (setCell_own y) : Frm (One E) w6 _).weak (fun k _ e => Or.inl e)
                  have FG : ∀ x y x' y', Frm (fun k => k = E ∨ k = G) w6 ((((w6.setCell ⟨E, 0, none⟩ x).setCell ⟨E, 1, none⟩ y).setCell ⟨G, 0, none⟩ x').setCell ⟨G, 1, none⟩ y') := fun x y x' y' => (FE x y).then_ (((setCell_own x').then_ (setCell_own y') : Frm (One G) _ _).weak (fun k _ e => Or.inr e))
                  have e0 := hL6.bE.cell
                  have e1 := hL6.bG.cell
                  have f0 := hL6.bE.fr
                  have f1 := hL6.bG.fr
                  have hne := hL6.ne
                  clear hB1 hB2 c0 c1 c2 c3' hL6
                  go_upto_region 15 with fail
                  refine wp_region_late (fun w' => w'.cell? ⟨F1, 0, none⟩ = some (.slice a3 l3 c3) ∧ w'.cell? ⟨F1, 1, none⟩ = some (.slice a4 l4 c4) ∧ w'.cell? ⟨F2, 0, none⟩ = some (.slice a5 l5 c5) ∧ w'.cell? ⟨F2, 1, none⟩ = some (.slice a6 l6 c6)) [] (by kernel_rfl) (SK.out _ (Frm.refl _ _).drew) (fun hHeld => ?_)
                  refine wpLate_take [2, 3] (i := 0) (oi := _) (v := _) rfl (by kernel_rfl) (by kernel_rfl) (by kernel_rfl) (by kernel_rfl) (by kernel_rfl) (fun _ _ _ h => h) (Or.inl ⟨by rfl, by intro w hSw; (try dsimp only at hSw); go_simp; all_goals with_reducible rfl⟩) (by assumption) ?_
                  (try simp only [Act.put, List.getElem_toArray, List.getElem_cons_zero, List.setIfInBounds_toArray, List.set_cons_zero, List.set_cons_succ])
                  refine wpLate_take [3] (i := 1) (oi := _) (v := _) rfl (by kernel_rfl) (by kernel_rfl) (by kernel_rfl) (by kernel_rfl) (by kernel_rfl) (fun _ _ _ h => h) (Or.inl ⟨by rfl, by intro w hSw; (try dsimp only at hSw); go_simp; all_goals with_reducible rfl⟩) (by assumption) ?_
                  (try simp only [Act.put, List.getElem_toArray, List.getElem_cons_succ, List.getElem_cons_zero, List.setIfInBounds_toArray, List.set_cons_zero, List.set_cons_succ])
                  refine wpLate_ready (rs := [2]) (by kernel_rfl) (by simp) ?_
                  refine (AllReadyL.cons (i := 2) rfl (fun K hK => ?_) AllReadyL.nil)
                  simp only [List.getElem_toArray, List.getElem_cons_succ, List.getElem_cons_zero]
                  go_simp
                  refine hK.out _ _ (SKX.out _ (by first | exact (FE _ _).drew | exact FE _ _)) (fun hHeld => ?_)
                  clear hK K
                  (try simp only [Act.put, List.getElem_toArray, List.getElem_cons_succ, List.getElem_cons_zero, List.setIfInBounds_toArray, List.set_cons_zero, List.set_cons_succ])
                  refine wpLate_ready (rs := [3]) (by kernel_rfl) (by simp) ?_
                  refine (AllReadyL.cons (i := 3) rfl (fun K hK => ?_) AllReadyL.nil)
                  simp only [List.getElem_toArray, List.getElem_cons_succ, List.getElem_cons_zero]
                  go_simp
                  refine hK.out _ _ (SKX.out _ (by first | exact (FG _ _ _ _).drew | exact FG _ _ _ _)) (fun hHeld => ?_)
                  clear hK K
                  (try simp only [Act.put, List.getElem_toArray, List.getElem_cons_succ, List.getElem_cons_zero, List.setIfInBounds_toArray, List.set_cons_zero, List.set_cons_succ])
                  refine wpLate_done (by kernel_rfl) ?_ _
                  dsimp only [Exit.then]; go_step; go_meet
                  exact ⟨_, _, _, _, R2, (HL6.out.turn HINV.out HR3b.out HR4b.out rfl).no (Frm.refl No _).drew⟩
                · as_aux_lemma =>
                  have herb : (er == 0) = false := beq_eq_false_iff_ne.2 her
                  have HKP : Hid (KpI w E G w6) := hid ⟨_, _, _, _, R, HL6.out⟩
                  clear hB1 hB2 hL6 HL6 HR3b HR4b her
                  go_wp2_with fail
                  go_meet
                  exact HKP.out
              case rest =>
                as_aux_lemma =>
                clear hB1 hB2 hL6 HL6 HR3b HR4b HINV HEF1
                obtain ⟨mvx, cvx, mvy, cvy, R3, hL⟩ := hcut
                obtain ⟨w7, rfl⟩ : ∃ w7, w7 = wc := ⟨_, rfl⟩
                obtain ⟨na, nc, pa, pc, rfl, rfl⟩ := hL.rE.shapes
                obtain ⟨na2, nc2, pa2, pc2, rfl, rfl⟩ := hL.rG.shapes
                have hpl32 := hL.inv.cl
                have HPT := hid (fun w1 (hf : Frm No w7 w1) => rput_any R3 _ _ w1 (hL.rE.no hf) hL.inv)
                have HGT := hid (fun w1 => rget_any (Roll.put R3) w1 (put_len hL.inv))
                rw [get_put hL.inv] at HGT
                have HRP := hid (fun w1 (hf : Frm No w7 w1) => roput_any R3 _ _ w1 (hL.rG.no hf) hL.inv)
                have HSM := hid (fun w1 a b (h1 : RlR w1 a b R3) (hf : Frm No w7 w1) => same_any R3 a b _ _ w1 h1 (hL.rG.no hf) hL.inv)
                obtain ⟨nl, hnl⟩ : ∃ nl, R3.mems.length = nl := ⟨_, rfl⟩
                obtain ⟨pl, hpl⟩ : ∃ pl, R3.clss.length = pl := ⟨_, rfl⟩
                have HPL := hid hpl
                rw [hnl, hpl] at HPT HRP HSM hL
                rw [hpl] at hpl32
                generalize Roll.put R3 = pp at HPT HGT HRP
                clear hnl hpl
                have k1 := hL.bE.cell
                have k2 := hL.bG.cell
                have HL := hid hL
                clear hL
                go_upto_region 20 with (first | (go_at_call 9; refine (HPT.out _ (Frm.refl No w7)).mono ?_; rintro e w8 ⟨rfl, hf8⟩) | (go_at_call 10; refine (HGT.out _).mono ?_; rintro e w9 ⟨mv9, cv9, rfl, hr9, hf9⟩; obtain ⟨a9, l9, c9, b9, m9, d9, rfl, rfl⟩ := hr9.any; have hfA : Frm No w7 (w9.alloc (.cells #[.slice a9 l9 c9, .slice b9 m9 d9] 27)) := (hf8.thenNo hf9).alloc _; have kG := (HL.out.bG.no hfA).cell; have BB := Box.new (HL.out.bE.frm.thenNo (hf8.thenNo hf9)) [.slice a9 l9 c9, .slice b9 m9 d9] 27; have hr9a := hr9.no ((Frm.refl No w9).alloc (.cells #[.slice a9 l9 c9, .slice b9 m9 d9] 27))) | (go_at_call 11; refine (HRP.out _ hfA).mono ?_; rintro e w10 ⟨rfl, hf10⟩; have hfB := hfA.thenNo hf10; have kG2 := (HL.out.bG.no hfB).cell; have BB2 := BB.no hf10; have kB2 := BB2.cell; have hr9b := hr9a.no hf10) | (go_at_call 8; refine (HSM.out _ _ _ hr9b hfB).mono ?_; rintro e w11 ⟨rfl, hf11⟩))
                have hL11 := HL.out.no (hfB.thenNo hf11)
                clear k1 k2 HL hf8 hf9 hfA kG BB hr9 hr9a hf10 hfB kG2 BB2 kB2 hr9b hf11 HPT HGT HRP HSM
                have HL := hid hL11
                have hbw11 : b < w11.heap.size := by have := hL11.bE.frm.size; omega
                have HMB := hid (fun w1 (hf : Frm No w11 w1) => rmember_any R3 _ _ da w1 (hL11.rE.no hf) hL11.inv.ms (by have := hL11.inv.ml; omega))
                have HFN := hid (fun w1 (hf : Frm No w11 w1) => find_is (n := da) (hL11.rG.no hf) hL11.inv)
                have HCS := hid (fun w1 (hf : Frm No w11 w1) => class_is (n := da) (hL11.rE.no hf) hL11.inv)
                have HOF := hid (fun w1 (hf : Frm No w11 w1) => rof_any R3 _ _ da w1 (hL11.rG.no hf) hL11.inv)
                have HTE := hid (fun w1 (hf : Frm No w11 w1) => teaches_any R3 _ _ da db w1 (hL11.rE.no hf) hL11.inv)
                generalize (find Mem.name R3.mems da).getD memZ = mm at HMB HFN
                generalize (find Mem.name R3.mems da).isSome = okb at HMB HFN
                obtain ⟨nm, ro, qu⟩ := mm
                simp only [mag] at HMB HFN
                obtain ⟨fo, hfo⟩ : ∃ fo, find Cls.name R3.clss da = fo := ⟨_, rfl⟩
                rw [hfo] at HCS
                have HFO := hid hfo
                obtain ⟨X, hX⟩ : ∃ X, fo.getD clsZ = X := ⟨_, rfl⟩
                rw [hX] at HCS
                have HXX := hid hX
                obtain ⟨okc, hokc⟩ : ∃ okc, fo.isSome = okc := ⟨_, rfl⟩
                rw [hokc] at HCS
                have HOK := hid hokc
                obtain ⟨xn, xt, xs⟩ := X
                dsimp only at HCS
                obtain ⟨xl, hxl⟩ : ∃ xl, xs.length = xl := ⟨_, rfl⟩
                rw [hxl] at HCS
                have HXL := hid hxl
                obtain ⟨ov, hov⟩ : ∃ ov, ofB R3 da = ov := ⟨_, rfl⟩
                rw [hov] at HOF
                have HOV := hid hov
                clear hfo hX hokc hxl hov
                -- Member
                have HF := hid hL11.bE.frm
                have c0 := hL11.bE.cell 0
                have c1 := hL11.bE.cell 1
                simp only [List.getElem?_cons_zero, List.getElem?_cons_succ] at c0 c1
                have hE11 := hL11.bE.lC
                obtain ⟨-, q1, -, -⟩ := HDD.out w11 HF.out
                have SK : Hid (∀ w', Frm No w11 w' → w'.cell? ⟨E, 0, none⟩ = some (.slice na nl nc) ∧ w'.cell? ⟨E, 1, none⟩ = some (.slice pa pl pc) ∧ w'.cell? ⟨b, o + k * 4 + 1, none⟩ = some (.string ⟨da.toArray⟩)) := hid fun w' hf => ⟨(hf.cell (p := ⟨E, 0, none⟩) hE11 (fun h => h)).trans c0, (hf.cell (p := ⟨E, 1, none⟩) hE11 (fun h => h)).trans c1, (hf.cell (p := ⟨b, o + k * 4 + 1, none⟩) hbw11 (fun h => h)).trans q1⟩
                clear hL11 c0 c1 q1
                go_cut [13, 14] from 97 to 106 (fun p q wq => OutP w w11 [.string ⟨nm.toArray⟩, .int .i64 ro, .int .i64 qu] (.bool okb) p q wq)
                case first =>
                  as_aux_lemma =>
                  refine wp_region_late (fun w' => w'.cell? ⟨E, 0, none⟩ = some (.slice na nl nc) ∧ w'.cell? ⟨E, 1, none⟩ = some (.slice pa pl pc) ∧ w'.cell? ⟨b, o + k * 4 + 1, none⟩ = some (.string ⟨da.toArray⟩)) [11] (by kernel_rfl) (SK.out _ (Frm.refl _ _).drew) (fun hHeld => ?_)
                  refine wpLate_take [6, 7, 8, 9, 11, 12] (i := 0) (oi := _) (v := _) rfl (by kernel_rfl) (by kernel_rfl) (by kernel_rfl) (by kernel_rfl) (by kernel_rfl) (fun _ _ _ h => h) (Or.inl ⟨by rfl, by intro w hSw; (try dsimp only at hSw); go_simp; all_goals with_reducible rfl⟩) (by assumption) ?_
                  (try simp only [Act.put, List.getElem_toArray, List.getElem_cons_zero, List.setIfInBounds_toArray, List.set_cons_zero, List.set_cons_succ])
                  refine wpLate_take0 (i := 1) (oi := _) (v := _) rfl (by kernel_rfl) (by kernel_rfl) (by kernel_rfl) (by kernel_rfl) (fun _ _ _ h => h) (Or.inl ⟨by rfl, by intro w _; go_simp; all_goals with_reducible rfl⟩) (fun _ => by assumption) ?_
                  (try simp only [Act.put, List.getElem_toArray, List.getElem_cons_succ, List.getElem_cons_zero, List.setIfInBounds_toArray, List.set_cons_zero, List.set_cons_succ])
                  refine wpLate_take0 (i := 2) (oi := _) (v := _) rfl (by kernel_rfl) (by kernel_rfl) (by kernel_rfl) (by kernel_rfl) (fun _ _ _ h => h) (Or.inl ⟨by rfl, by intro w _; go_simp; all_goals with_reducible rfl⟩) (fun _ => by assumption) ?_
                  (try simp only [Act.put, List.getElem_toArray, List.getElem_cons_succ, List.getElem_cons_zero, List.setIfInBounds_toArray, List.set_cons_zero, List.set_cons_succ])
                  refine wpLate_take0 (i := 3) (oi := _) (v := _) rfl (by kernel_rfl) (by kernel_rfl) (by kernel_rfl) (by kernel_rfl) (fun _ _ _ h => h) (Or.inl ⟨by rfl, by intro w _; go_simp; all_goals with_reducible rfl⟩) (fun _ => by assumption) ?_
                  (try simp only [Act.put, List.getElem_toArray, List.getElem_cons_succ, List.getElem_cons_zero, List.setIfInBounds_toArray, List.set_cons_zero, List.set_cons_succ])
                  refine wpLate_take0 (i := 4) (oi := _) (v := _) rfl (by kernel_rfl) (by kernel_rfl) (by kernel_rfl) (by kernel_rfl) (fun _ _ _ h => h) (Or.inl ⟨by rfl, by intro w _; go_simp; all_goals with_reducible rfl⟩) (fun _ => by assumption) ?_
                  (try simp only [Act.put, List.getElem_toArray, List.getElem_cons_succ, List.getElem_cons_zero, List.setIfInBounds_toArray, List.set_cons_zero, List.set_cons_succ])
                  refine wpLate_take [6, 7, 8, 9, 11, 12] (i := 5) (oi := _) (v := _) rfl (by kernel_rfl) (by kernel_rfl) (by kernel_rfl) (by kernel_rfl) (by kernel_rfl) (fun _ _ _ h => h) (Or.inl ⟨by rfl, by intro w hSw; (try dsimp only at hSw); go_simp; all_goals with_reducible rfl⟩) (by assumption) ?_
                  (try simp only [Act.put, List.getElem_toArray, List.getElem_cons_succ, List.getElem_cons_zero, List.setIfInBounds_toArray, List.set_cons_zero, List.set_cons_succ])
                  refine wpLate_ready (rs := [6, 10]) (by kernel_rfl) (by simp) ?_
                  refine (AllReadyL.cons (i := 6) rfl (fun K hK => ?_) (AllReadyL.cons (i := 10) rfl (fun K hK => ?_) AllReadyL.nil))
                  · simp only [List.getElem_toArray, List.getElem_cons_succ, List.getElem_cons_zero]
                    go_simp
                    refine (HMB.out _ (Frm.refl No w11).drew).mono ?_; rintro e wa ⟨rfl, hfa0⟩; have hfa := (Frm.refl No w11).drew.thenNo hfa0
                    refine hK.out _ _ (SK.out _ hfa) (fun hHeld => ?_)
                    clear hK K
                    (try simp only [Act.put, List.getElem_toArray, List.getElem_cons_succ, List.getElem_cons_zero, List.setIfInBounds_toArray, List.set_cons_zero, List.set_cons_succ])
                    refine wpLate_take0 (i := 7) (oi := _) (v := _) rfl (by kernel_rfl) (by kernel_rfl) (by kernel_rfl) (by kernel_rfl) (fun _ _ _ h => h) (Or.inl ⟨by rfl, by intro w _; go_simp; all_goals with_reducible rfl⟩) (fun _ => by assumption) ?_
                    (try simp only [Act.put, List.getElem_toArray, List.getElem_cons_succ, List.getElem_cons_zero, List.setIfInBounds_toArray, List.set_cons_zero, List.set_cons_succ])
                    refine wpLate_take0 (i := 8) (oi := _) (v := _) rfl (by kernel_rfl) (by kernel_rfl) (by kernel_rfl) (by kernel_rfl) (fun _ _ _ h => h) (Or.inl ⟨by rfl, by intro w _; go_simp; all_goals with_reducible rfl⟩) (fun _ => by assumption) ?_
                    (try simp only [Act.put, List.getElem_toArray, List.getElem_cons_succ, List.getElem_cons_zero, List.setIfInBounds_toArray, List.set_cons_zero, List.set_cons_succ])
                    refine wpLate_take0 (i := 9) (oi := _) (v := _) rfl (by kernel_rfl) (by kernel_rfl) (by kernel_rfl) (by kernel_rfl) (fun _ _ _ h => h) (Or.inl ⟨by rfl, by intro w _; go_simp; all_goals with_reducible rfl⟩) (fun _ => by assumption) ?_
                    (try simp only [Act.put, List.getElem_toArray, List.getElem_cons_succ, List.getElem_cons_zero, List.setIfInBounds_toArray, List.set_cons_zero, List.set_cons_succ])
                    refine wpLate_ready (rs := [10]) (by kernel_rfl) (by simp) ?_
                    refine (AllReadyL.cons (i := 10) rfl (fun K hK => ?_) AllReadyL.nil)
                    simp only [List.getElem_toArray, List.getElem_cons_succ, List.getElem_cons_zero]
                    go_simp
                    refine hK.out _ _ (SK.out _ (hfa.alloc _)) (fun hHeld => ?_)
                    clear hK K
                    (try simp only [Act.put, List.getElem_toArray, List.getElem_cons_succ, List.getElem_cons_zero, List.setIfInBounds_toArray, List.set_cons_zero, List.set_cons_succ])
                    refine wpLate_ready (rs := [11]) (by kernel_rfl) (by simp) ?_
                    refine (AllReadyL.late (i := 11) rfl (by kernel_rfl) (fun K hK => ?_) AllReadyL.nil)
                    simp only [List.getElem_toArray, List.getElem_cons_succ, List.getElem_cons_zero]
                    go_simp
                    refine hK.out _ _ ?_
                    clear hK K
                    (try simp only [Act.put, List.getElem_toArray, List.getElem_cons_succ, List.getElem_cons_zero, List.setIfInBounds_toArray, List.set_cons_zero, List.set_cons_succ])
                    refine wpLate_ready (rs := [12]) (by kernel_rfl) (by simp) ?_
                    refine (AllReadyL.late (i := 12) rfl (by kernel_rfl) (fun K hK => ?_) AllReadyL.nil)
                    simp only [List.getElem_toArray, List.getElem_cons_succ, List.getElem_cons_zero]
                    go_simp
                    refine hK.out _ _ ?_
                    clear hK K
                    (try simp only [Act.put, List.getElem_toArray, List.getElem_cons_succ, List.getElem_cons_zero, List.setIfInBounds_toArray, List.set_cons_zero, List.set_cons_succ])
                    refine wpLate_done (by kernel_rfl) ?_ _
                    dsimp only [Exit.then]; go_step; go_meet
                    exact out_end1 [.string ⟨nm.toArray⟩, .int .i64 ro, .int .i64 qu] HF.out hfa
                  · simp only [List.getElem_toArray, List.getElem_cons_succ, List.getElem_cons_zero]
                    go_simp
                    refine hK.out _ _ (SK.out _ ((Frm.refl No _).drew.alloc _)) (fun hHeld => ?_)
                    clear hK K
                    (try simp only [Act.put, List.getElem_toArray, List.getElem_cons_succ, List.getElem_cons_zero, List.setIfInBounds_toArray, List.set_cons_zero, List.set_cons_succ])
                    refine wpLate_ready (rs := [6]) (by kernel_rfl) (by simp) ?_
                    refine (AllReadyL.cons (i := 6) rfl (fun K hK => ?_) AllReadyL.nil)
                    simp only [List.getElem_toArray, List.getElem_cons_succ, List.getElem_cons_zero]
                    go_simp
                    refine (HMB.out _ ((Frm.refl No w11).drew.alloc _)).mono ?_; rintro e wb ⟨rfl, hfb0⟩; have hfb := ((Frm.refl No w11).drew.alloc _).thenNo hfb0; have BXb := (Box.new (HF.out.drew) [.string ⟨#[]⟩, .int .i64 0, .int .i64 0] 45).no hfb0
                    refine hK.out _ _ (SK.out _ hfb) (fun hHeld => ?_)
                    clear hK K
                    (try simp only [Act.put, List.getElem_toArray, List.getElem_cons_succ, List.getElem_cons_zero, List.setIfInBounds_toArray, List.set_cons_zero, List.set_cons_succ])
                    refine wpLate_take0 (i := 7) (oi := _) (v := _) rfl (by kernel_rfl) (by kernel_rfl) (by kernel_rfl) (by kernel_rfl) (fun _ _ _ h => h) (Or.inl ⟨by rfl, by intro w _; go_simp; all_goals with_reducible rfl⟩) (fun _ => by assumption) ?_
                    (try simp only [Act.put, List.getElem_toArray, List.getElem_cons_succ, List.getElem_cons_zero, List.setIfInBounds_toArray, List.set_cons_zero, List.set_cons_succ])
                    refine wpLate_take0 (i := 8) (oi := _) (v := _) rfl (by kernel_rfl) (by kernel_rfl) (by kernel_rfl) (by kernel_rfl) (fun _ _ _ h => h) (Or.inl ⟨by rfl, by intro w _; go_simp; all_goals with_reducible rfl⟩) (fun _ => by assumption) ?_
                    (try simp only [Act.put, List.getElem_toArray, List.getElem_cons_succ, List.getElem_cons_zero, List.setIfInBounds_toArray, List.set_cons_zero, List.set_cons_succ])
                    refine wpLate_take0 (i := 9) (oi := _) (v := _) rfl (by kernel_rfl) (by kernel_rfl) (by kernel_rfl) (by kernel_rfl) (fun _ _ _ h => h) (Or.inl ⟨by rfl, by intro w _; go_simp; all_goals with_reducible rfl⟩) (fun _ => by assumption) ?_
                    (try simp only [Act.put, List.getElem_toArray, List.getElem_cons_succ, List.getElem_cons_zero, List.setIfInBounds_toArray, List.set_cons_zero, List.set_cons_succ])
                    have cX : ∀ j, wb.cell? ⟨w11.heap.size, j, none⟩ = ([.string ⟨#[]⟩, .int .i64 0, .int .i64 0] : List Value)[j]? := BXb.cell
                    have fX : ∀ j, wb.frozen? ⟨w11.heap.size, j, none⟩ = false := BXb.fr
                    refine wpLate_ready (rs := [11]) (by kernel_rfl) (by simp) ?_
                    refine (AllReadyL.late (i := 11) rfl (by kernel_rfl) (fun K hK => ?_) AllReadyL.nil)
                    simp only [List.getElem_toArray, List.getElem_cons_succ, List.getElem_cons_zero]
                    go_simp
                    refine hK.out _ _ ?_
                    clear hK K
                    (try simp only [Act.put, List.getElem_toArray, List.getElem_cons_succ, List.getElem_cons_zero, List.setIfInBounds_toArray, List.set_cons_zero, List.set_cons_succ])
                    refine wpLate_ready (rs := [12]) (by kernel_rfl) (by simp) ?_
                    refine (AllReadyL.late (i := 12) rfl (by kernel_rfl) (fun K hK => ?_) AllReadyL.nil)
                    simp only [List.getElem_toArray, List.getElem_cons_succ, List.getElem_cons_zero]
                    go_simp
                    refine hK.out _ _ ?_
                    clear hK K
                    (try simp only [Act.put, List.getElem_toArray, List.getElem_cons_succ, List.getElem_cons_zero, List.setIfInBounds_toArray, List.set_cons_zero, List.set_cons_succ])
                    refine wpLate_done (by kernel_rfl) ?_ _
                    dsimp only [Exit.then]; go_step; go_meet
                    exact out_end3 (F := w11.heap.size) BXb hfb (Nat.le_refl _)
                case rest =>
                  as_aux_lemma =>
                  obtain ⟨F3, rfl, rfl, B3, hf12, -⟩ := hcut
                  obtain ⟨w12, rfl⟩ : ∃ w12, w12 = wc := ⟨_, rfl⟩
                  clear SK HF HMB hE11
                  have HB3 := hid B3
                  have HF11 := hid hf12
                  have hL12 := HL.out.no hf12
                  have hbw12 : b < w12.heap.size := by have := hf12.size; omega
                  clear B3 hf12 hbw11
                  have HF := hid hL12.bE.frm
                  have c0 := hL12.bG.cell 0
                  have c1 := hL12.bG.cell 1
                  simp only [List.getElem?_cons_zero, List.getElem?_cons_succ] at c0 c1
                  have hE12 := hL12.bG.lC
                  obtain ⟨-, q1, -, -⟩ := HDD.out w12 HF.out
                  have SK : Hid (∀ w', Frm No w12 w' → w'.cell? ⟨G, 0, none⟩ = some (.slice na2 nl nc2) ∧ w'.cell? ⟨G, 1, none⟩ = some (.slice pa2 pl pc2) ∧ w'.cell? ⟨b, o + k * 4 + 1, none⟩ = some (.string ⟨da.toArray⟩)) := hid fun w' hf => ⟨(hf.cell (p := ⟨G, 0, none⟩) hE12 (fun h => h)).trans c0, (hf.cell (p := ⟨G, 1, none⟩) hE12 (fun h => h)).trans c1, (hf.cell (p := ⟨b, o + k * 4 + 1, none⟩) hbw12 (fun h => h)).trans q1⟩
                  have HFN2 := hid (fun w1 (hf : Frm No w12 w1) => HFN.out w1 (HF11.out.thenNo hf))
                  clear hL12 c0 c1 q1 HFN
                  go_upto_region 21 with fail
                  go_cut [15, 16] from 107 to 116 (fun p q wq => OutP w w12 [.string ⟨nm.toArray⟩, .int .i64 ro, .int .i64 qu] (.bool okb) p q wq)
                  case first =>
                    as_aux_lemma =>
                    refine wp_region_late (fun w' => w'.cell? ⟨G, 0, none⟩ = some (.slice na2 nl nc2) ∧ w'.cell? ⟨G, 1, none⟩ = some (.slice pa2 pl pc2) ∧ w'.cell? ⟨b, o + k * 4 + 1, none⟩ = some (.string ⟨da.toArray⟩)) [11] (by kernel_rfl) (SK.out _ (Frm.refl _ _).drew) (fun hHeld => ?_)
                    refine wpLate_take [6, 7, 8, 9, 11, 12] (i := 0) (oi := _) (v := _) rfl (by kernel_rfl) (by kernel_rfl) (by kernel_rfl) (by kernel_rfl) (by kernel_rfl) (fun _ _ _ h => h) (Or.inl ⟨by rfl, by intro w hSw; (try dsimp only at hSw); go_simp; all_goals with_reducible rfl⟩) (by assumption) ?_
                    (try simp only [Act.put, List.getElem_toArray, List.getElem_cons_zero, List.setIfInBounds_toArray, List.set_cons_zero, List.set_cons_succ])
                    refine wpLate_take0 (i := 1) (oi := _) (v := _) rfl (by kernel_rfl) (by kernel_rfl) (by kernel_rfl) (by kernel_rfl) (fun _ _ _ h => h) (Or.inl ⟨by rfl, by intro w _; go_simp; all_goals with_reducible rfl⟩) (fun _ => by assumption) ?_
                    (try simp only [Act.put, List.getElem_toArray, List.getElem_cons_succ, List.getElem_cons_zero, List.setIfInBounds_toArray, List.set_cons_zero, List.set_cons_succ])
                    refine wpLate_take0 (i := 2) (oi := _) (v := _) rfl (by kernel_rfl) (by kernel_rfl) (by kernel_rfl) (by kernel_rfl) (fun _ _ _ h => h) (Or.inl ⟨by rfl, by intro w _; go_simp; all_goals with_reducible rfl⟩) (fun _ => by assumption) ?_
                    (try simp only [Act.put, List.getElem_toArray, List.getElem_cons_succ, List.getElem_cons_zero, List.setIfInBounds_toArray, List.set_cons_zero, List.set_cons_succ])
                    refine wpLate_take0 (i := 3) (oi := _) (v := _) rfl (by kernel_rfl) (by kernel_rfl) (by kernel_rfl) (by kernel_rfl) (fun _ _ _ h => h) (Or.inl ⟨by rfl, by intro w _; go_simp; all_goals with_reducible rfl⟩) (fun _ => by assumption) ?_
                    (try simp only [Act.put, List.getElem_toArray, List.getElem_cons_succ, List.getElem_cons_zero, List.setIfInBounds_toArray, List.set_cons_zero, List.set_cons_succ])
                    refine wpLate_take0 (i := 4) (oi := _) (v := _) rfl (by kernel_rfl) (by kernel_rfl) (by kernel_rfl) (by kernel_rfl) (fun _ _ _ h => h) (Or.inl ⟨by rfl, by intro w _; go_simp; all_goals with_reducible rfl⟩) (fun _ => by assumption) ?_
                    (try simp only [Act.put, List.getElem_toArray, List.getElem_cons_succ, List.getElem_cons_zero, List.setIfInBounds_toArray, List.set_cons_zero, List.set_cons_succ])
                    refine wpLate_take [6, 7, 8, 9, 11, 12] (i := 5) (oi := _) (v := _) rfl (by kernel_rfl) (by kernel_rfl) (by kernel_rfl) (by kernel_rfl) (by kernel_rfl) (fun _ _ _ h => h) (Or.inl ⟨by rfl, by intro w hSw; (try dsimp only at hSw); go_simp; all_goals with_reducible rfl⟩) (by assumption) ?_
                    (try simp only [Act.put, List.getElem_toArray, List.getElem_cons_succ, List.getElem_cons_zero, List.setIfInBounds_toArray, List.set_cons_zero, List.set_cons_succ])
                    refine wpLate_ready (rs := [6, 10]) (by kernel_rfl) (by simp) ?_
                    refine (AllReadyL.cons (i := 6) rfl (fun K hK => ?_) (AllReadyL.cons (i := 10) rfl (fun K hK => ?_) AllReadyL.nil))
                    · simp only [List.getElem_toArray, List.getElem_cons_succ, List.getElem_cons_zero]
                      go_simp
                      refine (HFN2.out _ (Frm.refl No w12).drew).mono ?_; rintro e wa ⟨rfl, hfa0⟩; have hfa := (Frm.refl No w12).drew.thenNo hfa0
                      refine hK.out _ _ (SK.out _ hfa) (fun hHeld => ?_)
                      clear hK K
                      (try simp only [Act.put, List.getElem_toArray, List.getElem_cons_succ, List.getElem_cons_zero, List.setIfInBounds_toArray, List.set_cons_zero, List.set_cons_succ])
                      refine wpLate_take0 (i := 7) (oi := _) (v := _) rfl (by kernel_rfl) (by kernel_rfl) (by kernel_rfl) (by kernel_rfl) (fun _ _ _ h => h) (Or.inl ⟨by rfl, by intro w _; go_simp; all_goals with_reducible rfl⟩) (fun _ => by assumption) ?_
                      (try simp only [Act.put, List.getElem_toArray, List.getElem_cons_succ, List.getElem_cons_zero, List.setIfInBounds_toArray, List.set_cons_zero, List.set_cons_succ])
                      refine wpLate_take0 (i := 8) (oi := _) (v := _) rfl (by kernel_rfl) (by kernel_rfl) (by kernel_rfl) (by kernel_rfl) (fun _ _ _ h => h) (Or.inl ⟨by rfl, by intro w _; go_simp; all_goals with_reducible rfl⟩) (fun _ => by assumption) ?_
                      (try simp only [Act.put, List.getElem_toArray, List.getElem_cons_succ, List.getElem_cons_zero, List.setIfInBounds_toArray, List.set_cons_zero, List.set_cons_succ])
                      refine wpLate_take0 (i := 9) (oi := _) (v := _) rfl (by kernel_rfl) (by kernel_rfl) (by kernel_rfl) (by kernel_rfl) (fun _ _ _ h => h) (Or.inl ⟨by rfl, by intro w _; go_simp; all_goals with_reducible rfl⟩) (fun _ => by assumption) ?_
                      (try simp only [Act.put, List.getElem_toArray, List.getElem_cons_succ, List.getElem_cons_zero, List.setIfInBounds_toArray, List.set_cons_zero, List.set_cons_succ])
                      refine wpLate_ready (rs := [10]) (by kernel_rfl) (by simp) ?_
                      refine (AllReadyL.cons (i := 10) rfl (fun K hK => ?_) AllReadyL.nil)
                      simp only [List.getElem_toArray, List.getElem_cons_succ, List.getElem_cons_zero]
                      go_simp
                      refine hK.out _ _ (SK.out _ (hfa.alloc _)) (fun hHeld => ?_)
                      clear hK K
                      (try simp only [Act.put, List.getElem_toArray, List.getElem_cons_succ, List.getElem_cons_zero, List.setIfInBounds_toArray, List.set_cons_zero, List.set_cons_succ])
                      refine wpLate_ready (rs := [11]) (by kernel_rfl) (by simp) ?_
                      refine (AllReadyL.late (i := 11) rfl (by kernel_rfl) (fun K hK => ?_) AllReadyL.nil)
                      simp only [List.getElem_toArray, List.getElem_cons_succ, List.getElem_cons_zero]
                      go_simp
                      refine hK.out _ _ ?_
                      clear hK K
                      (try simp only [Act.put, List.getElem_toArray, List.getElem_cons_succ, List.getElem_cons_zero, List.setIfInBounds_toArray, List.set_cons_zero, List.set_cons_succ])
                      refine wpLate_ready (rs := [12]) (by kernel_rfl) (by simp) ?_
                      refine (AllReadyL.late (i := 12) rfl (by kernel_rfl) (fun K hK => ?_) AllReadyL.nil)
                      simp only [List.getElem_toArray, List.getElem_cons_succ, List.getElem_cons_zero]
                      go_simp
                      refine hK.out _ _ ?_
                      clear hK K
                      (try simp only [Act.put, List.getElem_toArray, List.getElem_cons_succ, List.getElem_cons_zero, List.setIfInBounds_toArray, List.set_cons_zero, List.set_cons_succ])
                      refine wpLate_done (by kernel_rfl) ?_ _
                      dsimp only [Exit.then]; go_step; go_meet
                      exact out_end1 [.string ⟨nm.toArray⟩, .int .i64 ro, .int .i64 qu] HF.out hfa
                    · simp only [List.getElem_toArray, List.getElem_cons_succ, List.getElem_cons_zero]
                      go_simp
                      refine hK.out _ _ (SK.out _ ((Frm.refl No _).drew.alloc _)) (fun hHeld => ?_)
                      clear hK K
                      (try simp only [Act.put, List.getElem_toArray, List.getElem_cons_succ, List.getElem_cons_zero, List.setIfInBounds_toArray, List.set_cons_zero, List.set_cons_succ])
                      refine wpLate_ready (rs := [6]) (by kernel_rfl) (by simp) ?_
                      refine (AllReadyL.cons (i := 6) rfl (fun K hK => ?_) AllReadyL.nil)
                      simp only [List.getElem_toArray, List.getElem_cons_succ, List.getElem_cons_zero]
                      go_simp
                      refine (HFN2.out _ ((Frm.refl No w12).drew.alloc _)).mono ?_; rintro e wb ⟨rfl, hfb0⟩; have hfb := ((Frm.refl No w12).drew.alloc _).thenNo hfb0; have BXb := (Box.new (HF.out.drew) [.string ⟨#[]⟩, .int .i64 0, .int .i64 0] 48).no hfb0
                      refine hK.out _ _ (SK.out _ hfb) (fun hHeld => ?_)
                      clear hK K
                      (try simp only [Act.put, List.getElem_toArray, List.getElem_cons_succ, List.getElem_cons_zero, List.setIfInBounds_toArray, List.set_cons_zero, List.set_cons_succ])
                      refine wpLate_take0 (i := 7) (oi := _) (v := _) rfl (by kernel_rfl) (by kernel_rfl) (by kernel_rfl) (by kernel_rfl) (fun _ _ _ h => h) (Or.inl ⟨by rfl, by intro w _; go_simp; all_goals with_reducible rfl⟩) (fun _ => by assumption) ?_
                      (try simp only [Act.put, List.getElem_toArray, List.getElem_cons_succ, List.getElem_cons_zero, List.setIfInBounds_toArray, List.set_cons_zero, List.set_cons_succ])
                      refine wpLate_take0 (i := 8) (oi := _) (v := _) rfl (by kernel_rfl) (by kernel_rfl) (by kernel_rfl) (by kernel_rfl) (fun _ _ _ h => h) (Or.inl ⟨by rfl, by intro w _; go_simp; all_goals with_reducible rfl⟩) (fun _ => by assumption) ?_
                      (try simp only [Act.put, List.getElem_toArray, List.getElem_cons_succ, List.getElem_cons_zero, List.setIfInBounds_toArray, List.set_cons_zero, List.set_cons_succ])
                      refine wpLate_take0 (i := 9) (oi := _) (v := _) rfl (by kernel_rfl) (by kernel_rfl) (by kernel_rfl) (by kernel_rfl) (fun _ _ _ h => h) (Or.inl ⟨by rfl, by intro w _; go_simp; all_goals with_reducible rfl⟩) (fun _ => by assumption) ?_
                      (try simp only [Act.put, List.getElem_toArray, List.getElem_cons_succ, List.getElem_cons_zero, List.setIfInBounds_toArray, List.set_cons_zero, List.set_cons_succ])
                      have cX : ∀ j, wb.cell? ⟨w12.heap.size, j, none⟩ = ([.string ⟨#[]⟩, .int .i64 0, .int .i64 0] : List Value)[j]? := BXb.cell
                      have fX : ∀ j, wb.frozen? ⟨w12.heap.size, j, none⟩ = false := BXb.fr
                      refine wpLate_ready (rs := [11]) (by kernel_rfl) (by simp) ?_
                      refine (AllReadyL.late (i := 11) rfl (by kernel_rfl) (fun K hK => ?_) AllReadyL.nil)
                      simp only [List.getElem_toArray, List.getElem_cons_succ, List.getElem_cons_zero]
                      go_simp
                      refine hK.out _ _ ?_
                      clear hK K
                      (try simp only [Act.put, List.getElem_toArray, List.getElem_cons_succ, List.getElem_cons_zero, List.setIfInBounds_toArray, List.set_cons_zero, List.set_cons_succ])
                      refine wpLate_ready (rs := [12]) (by kernel_rfl) (by simp) ?_
                      refine (AllReadyL.late (i := 12) rfl (by kernel_rfl) (fun K hK => ?_) AllReadyL.nil)
                      simp only [List.getElem_toArray, List.getElem_cons_succ, List.getElem_cons_zero]
                      go_simp
                      refine hK.out _ _ ?_
                      clear hK K
                      (try simp only [Act.put, List.getElem_toArray, List.getElem_cons_succ, List.getElem_cons_zero, List.setIfInBounds_toArray, List.set_cons_zero, List.set_cons_succ])
                      refine wpLate_done (by kernel_rfl) ?_ _
                      dsimp only [Exit.then]; go_step; go_meet
                      exact out_end3 (F := w12.heap.size) BXb hfb (Nat.le_refl _)
                  case rest =>
                    as_aux_lemma =>
                    obtain ⟨F4, rfl, rfl, B4, hf13, -⟩ := hcut
                    obtain ⟨w13, rfl⟩ : ∃ w13, w13 = wc := ⟨_, rfl⟩
                    clear SK HF HFN2 hE12
                    have HB3 := hid (HB3.out.no hf13)
                    have HB4 := hid B4
                    have HF12 := hid (HF11.out.thenNo hf13)
                    have hL13 := HL.out.no HF12.out
                    have hbw13 : b < w13.heap.size := by have := hf13.size; omega
                    clear B4 hf13 hbw12 HF11
                    have HF := hid hL13.bE.frm
                    have c0 := hL13.bE.cell 0
                    have c1 := hL13.bE.cell 1
                    simp only [List.getElem?_cons_zero, List.getElem?_cons_succ] at c0 c1
                    have hE13 := hL13.bE.lC
                    obtain ⟨-, q1, -, -⟩ := HDD.out w13 HF.out
                    have SK : Hid (∀ w', Frm No w13 w' → w'.cell? ⟨E, 0, none⟩ = some (.slice na nl nc) ∧ w'.cell? ⟨E, 1, none⟩ = some (.slice pa pl pc) ∧ w'.cell? ⟨b, o + k * 4 + 1, none⟩ = some (.string ⟨da.toArray⟩)) := hid fun w' hf => ⟨(hf.cell (p := ⟨E, 0, none⟩) hE13 (fun h => h)).trans c0, (hf.cell (p := ⟨E, 1, none⟩) hE13 (fun h => h)).trans c1, (hf.cell (p := ⟨b, o + k * 4 + 1, none⟩) hbw13 (fun h => h)).trans q1⟩
                    have HCS2 := hid (fun w1 (hf : Frm No w13 w1) => HCS.out w1 (HF12.out.thenNo hf))
                    clear hL13 c0 c1 q1 HCS
                    go_upto_region 22 with fail
                    go_cut [17, 18] from 117 to 126 (fun p q wq => ∃ so sc, OutP w w13 [.string ⟨xn.toArray⟩, .string ⟨xt.toArray⟩, .slice so xl sc] (.bool okc) p q wq)
                    case first =>
                      as_aux_lemma =>
                      refine wp_region_late (fun w' => w'.cell? ⟨E, 0, none⟩ = some (.slice na nl nc) ∧ w'.cell? ⟨E, 1, none⟩ = some (.slice pa pl pc) ∧ w'.cell? ⟨b, o + k * 4 + 1, none⟩ = some (.string ⟨da.toArray⟩)) [11] (by kernel_rfl) (SK.out _ (Frm.refl _ _).drew) (fun hHeld => ?_)
                      refine wpLate_take [6, 7, 8, 9, 11, 12] (i := 0) (oi := _) (v := _) rfl (by kernel_rfl) (by kernel_rfl) (by kernel_rfl) (by kernel_rfl) (by kernel_rfl) (fun _ _ _ h => h) (Or.inl ⟨by rfl, by intro w hSw; (try dsimp only at hSw); go_simp; all_goals with_reducible rfl⟩) (by assumption) ?_
                      (try simp only [Act.put, List.getElem_toArray, List.getElem_cons_zero, List.setIfInBounds_toArray, List.set_cons_zero, List.set_cons_succ])
                      refine wpLate_take0 (i := 1) (oi := _) (v := _) rfl (by kernel_rfl) (by kernel_rfl) (by kernel_rfl) (by kernel_rfl) (fun _ _ _ h => h) (Or.inl ⟨by rfl, by intro w _; go_simp; all_goals with_reducible rfl⟩) (fun _ => by assumption) ?_
                      (try simp only [Act.put, List.getElem_toArray, List.getElem_cons_succ, List.getElem_cons_zero, List.setIfInBounds_toArray, List.set_cons_zero, List.set_cons_succ])
                      refine wpLate_take0 (i := 2) (oi := _) (v := _) rfl (by kernel_rfl) (by kernel_rfl) (by kernel_rfl) (by kernel_rfl) (fun _ _ _ h => h) (Or.inl ⟨by rfl, by intro w _; go_simp; all_goals with_reducible rfl⟩) (fun _ => by assumption) ?_
                      (try simp only [Act.put, List.getElem_toArray, List.getElem_cons_succ, List.getElem_cons_zero, List.setIfInBounds_toArray, List.set_cons_zero, List.set_cons_succ])
                      refine wpLate_take0 (i := 3) (oi := _) (v := _) rfl (by kernel_rfl) (by kernel_rfl) (by kernel_rfl) (by kernel_rfl) (fun _ _ _ h => h) (Or.inl ⟨by rfl, by intro w _; go_simp; all_goals with_reducible rfl⟩) (fun _ => by assumption) ?_
                      (try simp only [Act.put, List.getElem_toArray, List.getElem_cons_succ, List.getElem_cons_zero, List.setIfInBounds_toArray, List.set_cons_zero, List.set_cons_succ])
                      refine wpLate_take0 (i := 4) (oi := _) (v := _) rfl (by kernel_rfl) (by kernel_rfl) (by kernel_rfl) (by kernel_rfl) (fun _ _ _ h => h) (Or.inl ⟨by rfl, by intro w _; go_simp; all_goals with_reducible rfl⟩) (fun _ => by assumption) ?_
                      (try simp only [Act.put, List.getElem_toArray, List.getElem_cons_succ, List.getElem_cons_zero, List.setIfInBounds_toArray, List.set_cons_zero, List.set_cons_succ])
                      refine wpLate_take [6, 7, 8, 9, 11, 12] (i := 5) (oi := _) (v := _) rfl (by kernel_rfl) (by kernel_rfl) (by kernel_rfl) (by kernel_rfl) (by kernel_rfl) (fun _ _ _ h => h) (Or.inl ⟨by rfl, by intro w hSw; (try dsimp only at hSw); go_simp; all_goals with_reducible rfl⟩) (by assumption) ?_
                      (try simp only [Act.put, List.getElem_toArray, List.getElem_cons_succ, List.getElem_cons_zero, List.setIfInBounds_toArray, List.set_cons_zero, List.set_cons_succ])
                      refine wpLate_ready (rs := [6, 10]) (by kernel_rfl) (by simp) ?_
                      refine (AllReadyL.cons (i := 6) rfl (fun K hK => ?_) (AllReadyL.cons (i := 10) rfl (fun K hK => ?_) AllReadyL.nil))
                      · simp only [List.getElem_toArray, List.getElem_cons_succ, List.getElem_cons_zero]
                        go_simp
                        refine (HCS2.out _ (Frm.refl No w13).drew).mono ?_; rintro e wa ⟨so, sc, rfl, hfa0⟩; have hfa := (Frm.refl No w13).drew.thenNo hfa0
                        refine hK.out _ _ (SK.out _ hfa) (fun hHeld => ?_)
                        clear hK K
                        (try simp only [Act.put, List.getElem_toArray, List.getElem_cons_succ, List.getElem_cons_zero, List.setIfInBounds_toArray, List.set_cons_zero, List.set_cons_succ])
                        refine wpLate_take0 (i := 7) (oi := _) (v := _) rfl (by kernel_rfl) (by kernel_rfl) (by kernel_rfl) (by kernel_rfl) (fun _ _ _ h => h) (Or.inl ⟨by rfl, by intro w _; go_simp; all_goals with_reducible rfl⟩) (fun _ => by assumption) ?_
                        (try simp only [Act.put, List.getElem_toArray, List.getElem_cons_succ, List.getElem_cons_zero, List.setIfInBounds_toArray, List.set_cons_zero, List.set_cons_succ])
                        refine wpLate_take0 (i := 8) (oi := _) (v := _) rfl (by kernel_rfl) (by kernel_rfl) (by kernel_rfl) (by kernel_rfl) (fun _ _ _ h => h) (Or.inl ⟨by rfl, by intro w _; go_simp; all_goals with_reducible rfl⟩) (fun _ => by assumption) ?_
                        (try simp only [Act.put, List.getElem_toArray, List.getElem_cons_succ, List.getElem_cons_zero, List.setIfInBounds_toArray, List.set_cons_zero, List.set_cons_succ])
                        refine wpLate_take0 (i := 9) (oi := _) (v := _) rfl (by kernel_rfl) (by kernel_rfl) (by kernel_rfl) (by kernel_rfl) (fun _ _ _ h => h) (Or.inl ⟨by rfl, by intro w _; go_simp; all_goals with_reducible rfl⟩) (fun _ => by assumption) ?_
                        (try simp only [Act.put, List.getElem_toArray, List.getElem_cons_succ, List.getElem_cons_zero, List.setIfInBounds_toArray, List.set_cons_zero, List.set_cons_succ])
                        refine wpLate_ready (rs := [10]) (by kernel_rfl) (by simp) ?_
                        refine (AllReadyL.cons (i := 10) rfl (fun K hK => ?_) AllReadyL.nil)
                        simp only [List.getElem_toArray, List.getElem_cons_succ, List.getElem_cons_zero]
                        go_simp
                        refine hK.out _ _ (SK.out _ (hfa.alloc _)) (fun hHeld => ?_)
                        clear hK K
                        (try simp only [Act.put, List.getElem_toArray, List.getElem_cons_succ, List.getElem_cons_zero, List.setIfInBounds_toArray, List.set_cons_zero, List.set_cons_succ])
                        refine wpLate_ready (rs := [11]) (by kernel_rfl) (by simp) ?_
                        refine (AllReadyL.late (i := 11) rfl (by kernel_rfl) (fun K hK => ?_) AllReadyL.nil)
                        simp only [List.getElem_toArray, List.getElem_cons_succ, List.getElem_cons_zero]
                        go_simp
                        refine hK.out _ _ ?_
                        clear hK K
                        (try simp only [Act.put, List.getElem_toArray, List.getElem_cons_succ, List.getElem_cons_zero, List.setIfInBounds_toArray, List.set_cons_zero, List.set_cons_succ])
                        refine wpLate_ready (rs := [12]) (by kernel_rfl) (by simp) ?_
                        refine (AllReadyL.late (i := 12) rfl (by kernel_rfl) (fun K hK => ?_) AllReadyL.nil)
                        simp only [List.getElem_toArray, List.getElem_cons_succ, List.getElem_cons_zero]
                        go_simp
                        refine hK.out _ _ ?_
                        clear hK K
                        (try simp only [Act.put, List.getElem_toArray, List.getElem_cons_succ, List.getElem_cons_zero, List.setIfInBounds_toArray, List.set_cons_zero, List.set_cons_succ])
                        refine wpLate_done (by kernel_rfl) ?_ _
                        dsimp only [Exit.then]; go_step; go_meet
                        exact ⟨_, _, out_end1 [.string ⟨xn.toArray⟩, .string ⟨xt.toArray⟩, .slice so xl sc] HF.out hfa⟩
                      · simp only [List.getElem_toArray, List.getElem_cons_succ, List.getElem_cons_zero]
                        go_simp
                        refine hK.out _ _ (SK.out _ ((Frm.refl No _).drew.alloc _)) (fun hHeld => ?_)
                        clear hK K
                        (try simp only [Act.put, List.getElem_toArray, List.getElem_cons_succ, List.getElem_cons_zero, List.setIfInBounds_toArray, List.set_cons_zero, List.set_cons_succ])
                        refine wpLate_ready (rs := [6]) (by kernel_rfl) (by simp) ?_
                        refine (AllReadyL.cons (i := 6) rfl (fun K hK => ?_) AllReadyL.nil)
                        simp only [List.getElem_toArray, List.getElem_cons_succ, List.getElem_cons_zero]
                        go_simp
                        refine (HCS2.out _ ((Frm.refl No w13).drew.alloc _)).mono ?_; rintro e wb ⟨so, sc, rfl, hfb0⟩; have hfb := ((Frm.refl No w13).drew.alloc _).thenNo hfb0; have BXb := (Box.new (HF.out.drew) [.string ⟨#[]⟩, .string ⟨#[]⟩, .slice none 0 0] 53).no hfb0
                        refine hK.out _ _ (SK.out _ hfb) (fun hHeld => ?_)
                        clear hK K
                        (try simp only [Act.put, List.getElem_toArray, List.getElem_cons_succ, List.getElem_cons_zero, List.setIfInBounds_toArray, List.set_cons_zero, List.set_cons_succ])
                        refine wpLate_take0 (i := 7) (oi := _) (v := _) rfl (by kernel_rfl) (by kernel_rfl) (by kernel_rfl) (by kernel_rfl) (fun _ _ _ h => h) (Or.inl ⟨by rfl, by intro w _; go_simp; all_goals with_reducible rfl⟩) (fun _ => by assumption) ?_
                        (try simp only [Act.put, List.getElem_toArray, List.getElem_cons_succ, List.getElem_cons_zero, List.setIfInBounds_toArray, List.set_cons_zero, List.set_cons_succ])
                        refine wpLate_take0 (i := 8) (oi := _) (v := _) rfl (by kernel_rfl) (by kernel_rfl) (by kernel_rfl) (by kernel_rfl) (fun _ _ _ h => h) (Or.inl ⟨by rfl, by intro w _; go_simp; all_goals with_reducible rfl⟩) (fun _ => by assumption) ?_
                        (try simp only [Act.put, List.getElem_toArray, List.getElem_cons_succ, List.getElem_cons_zero, List.setIfInBounds_toArray, List.set_cons_zero, List.set_cons_succ])
                        refine wpLate_take0 (i := 9) (oi := _) (v := _) rfl (by kernel_rfl) (by kernel_rfl) (by kernel_rfl) (by kernel_rfl) (fun _ _ _ h => h) (Or.inl ⟨by rfl, by intro w _; go_simp; all_goals with_reducible rfl⟩) (fun _ => by assumption) ?_
                        (try simp only [Act.put, List.getElem_toArray, List.getElem_cons_succ, List.getElem_cons_zero, List.setIfInBounds_toArray, List.set_cons_zero, List.set_cons_succ])
                        have cX : ∀ j, wb.cell? ⟨w13.heap.size, j, none⟩ = ([.string ⟨#[]⟩, .string ⟨#[]⟩, .slice none 0 0] : List Value)[j]? := BXb.cell
                        have fX : ∀ j, wb.frozen? ⟨w13.heap.size, j, none⟩ = false := BXb.fr
                        refine wpLate_ready (rs := [11]) (by kernel_rfl) (by simp) ?_
                        refine (AllReadyL.late (i := 11) rfl (by kernel_rfl) (fun K hK => ?_) AllReadyL.nil)
                        simp only [List.getElem_toArray, List.getElem_cons_succ, List.getElem_cons_zero]
                        go_simp
                        refine hK.out _ _ ?_
                        clear hK K
                        (try simp only [Act.put, List.getElem_toArray, List.getElem_cons_succ, List.getElem_cons_zero, List.setIfInBounds_toArray, List.set_cons_zero, List.set_cons_succ])
                        refine wpLate_ready (rs := [12]) (by kernel_rfl) (by simp) ?_
                        refine (AllReadyL.late (i := 12) rfl (by kernel_rfl) (fun K hK => ?_) AllReadyL.nil)
                        simp only [List.getElem_toArray, List.getElem_cons_succ, List.getElem_cons_zero]
                        go_simp
                        refine hK.out _ _ ?_
                        clear hK K
                        (try simp only [Act.put, List.getElem_toArray, List.getElem_cons_succ, List.getElem_cons_zero, List.setIfInBounds_toArray, List.set_cons_zero, List.set_cons_succ])
                        refine wpLate_done (by kernel_rfl) ?_ _
                        dsimp only [Exit.then]; go_step; go_meet
                        exact ⟨_, _, out_end3 (F := w13.heap.size) BXb hfb (Nat.le_refl _)⟩
                    case rest =>
                      as_aux_lemma =>
                      obtain ⟨so, sc, F5, rfl, rfl, B5, hf14, -⟩ := hcut
                      obtain ⟨w14, rfl⟩ : ∃ w14, w14 = wc := ⟨_, rfl⟩
                      clear SK HF HCS2 hE13
                      have HB3 := hid (HB3.out.no hf14)
                      have HB4 := hid (HB4.out.no hf14)
                      have HB5 := hid B5
                      have HF13 := hid (HF12.out.thenNo hf14)
                      have hL14 := HL.out.no HF13.out
                      clear B5 hf14 hbw13 HF12
                      have HF := hid hL14.bE.frm
                      have c0 := hL14.bG.cell 0
                      have c1 := hL14.bG.cell 1
                      simp only [List.getElem?_cons_zero, List.getElem?_cons_succ] at c0 c1
                      obtain ⟨-, q1, -, -⟩ := HDD.out w14 HF.out
                      have d0 := Wd.cell c0
                      have d1 := Wd.cell c1
                      have d2 := Wd.cell q1
                      have HOF2 := hid (fun w1 (hf : Frm No w14 w1) => HOF.out w1 (HF13.out.thenNo hf))
                      clear hL14 HOF
                      go_upto_region 23 with fail
                      go_cut [19] from 127 to 133 (fun p wq => p = .int .i64 ov ∧ Frm No w14 wq)
                      case first =>
                        as_aux_lemma =>
                        refine wp_region_frm (by kernel_rfl) (by kernel_rfl) ?_
                        repeat (go_big_quiet_step (exact Calls.wd (HOF2.out _ (Wd.frm _))))
                        refine wpQuiet_nil ?_
                        intro w9 hf9
                        dsimp only [Exit.then]; go_step; go_meet
                        exact ⟨rfl, hf9⟩
                      case rest =>
                        as_aux_lemma =>
                        obtain ⟨rfl, hf15⟩ := hcut
                        obtain ⟨w15, rfl⟩ : ∃ w15, w15 = wc := ⟨_, rfl⟩
                        have B3 := HB3.out.no hf15
                        have B4 := HB4.out.no hf15
                        have B5 := HB5.out.no hf15
                        have HF14 := hid (HF13.out.thenNo hf15)
                        have hL15 := HL.out.no HF14.out
                        clear HOF2 HB3 HB4 HB5 HF13 hf15 c0 c1 q1 d0 d1 d2 HF
                        have r3 := B3.cell
                        have r4 := B4.cell
                        have r5 := B5.cell
                        have rG := hL15.bG.cell
                        have HL15 := hid hL15
                        clear B3 B4 B5 hL15
                        have HCASE : Hid ((okc = false ∧ ov = -1) ∨ (okc = true ∧ ∃ (p g o2 : Nat) (xo : Option Addr) (xc : Nat), ov = (p : Int) ∧ p < pl ∧ pa2 = some ⟨g, o2, none⟩ ∧ w15.cell? ⟨g, o2 + p * 3 + 1, none⟩ = some (.string ⟨xt.toArray⟩) ∧ w15.cell? ⟨g, o2 + p * 3 + 2, none⟩ = some (.slice xo xl xc))) := hid (by
                          have hxx := HXX.out
                          have hok := HOK.out
                          have hfo := HFO.out
                          cases fo with
                          | none => exact .inl ⟨hok.symm, by rw [← HOV.out]; exact ofB_no (find_none.1 hfo)⟩
                          | some X =>
                            have hhas := find_has hfo
                            have hov := HOV.out
                            rw [ofB_yes hhas] at hov
                            obtain ⟨hpp, hfa⟩ := find_at HL.out.inv.cs hhas
                            obtain ⟨p, hp⟩ : ∃ p, place Cls.name R3.clss da = p := ⟨_, rfl⟩
                            rw [hp] at hov
                            simp only [hp] at hpp hfa
                            have hXe : R3.clss[p]'hpp = ⟨xn, xt, xs⟩ := by
                              rw [hfa] at hfo
                              simp only [Option.getD_some] at hxx
                              rw [← hxx]
                              exact Option.some.inj hfo
                            obtain ⟨g, o2, c2, xo, xc, hcv, k0, k1, k2, -, -⟩ := HL15.out.rG.cls hpp
                            simp only [hXe, HPL.out, HXL.out] at hcv k1 k2
                            simp only [Value.slice.injEq, true_and] at hcv
                            exact .inr ⟨hok.symm, p, g, o2, xo, xc, hov.symm, by rw [← HPL.out]; exact hpp, hcv.1, k1, k2⟩)
                        go_upto_region 24 with fail
                        go_cut [174] from 134 to 174 (fun p wq => p = .bool false ∧ Frm No w15 wq)
                        case first =>
                          as_aux_lemma =>
                          rcases HCASE.out with ⟨rfl, rfl⟩ | ⟨rfl, p, g, o2, xo, xc, rfl, hppl, rfl, k1, k2⟩
                          · clear HTE HFO HXX HOK HXL HOV HL HF14 HL15 HDD HPL HCASE
                            go_quiet (fail)
                            go_wp2_with fail
                            go_meet
                            exact ⟨rfl, (Frm.refl No w15).drewN _⟩
                          · have hppz : (p : Int) < (pl : Int) := by omega
                            have hp0 : (0 : Int) ≤ (p : Int) := by omega
                            clear HTE HFO HXX HOK HXL HOV HL HF14 HL15 HDD HPL HCASE
                            go_quiet (fail)
                            go_wp2_with fail
                            go_meet
                            exact ⟨rfl, (Frm.refl No w15).drewN _⟩
                        case rest =>
                          as_aux_lemma =>
                          obtain ⟨rfl, hf16⟩ := hcut
                          obtain ⟨w16, rfl⟩ : ∃ w16, w16 = wc := ⟨_, rfl⟩
                          have HF16 := hid (HF14.out.thenNo hf16)
                          have HL16 := hid (HL15.out.no hf16)
                          clear r3 r4 r5 rG HL15 HF14 hf16 HFO HXX HOK HXL HOV HCASE
                          go_wp2_with fail
                          go_loopw [20, 21] (fun tv iv wr => ∃ j : Nat, j ≤ pl ∧ iv = .int .i64 (j : Int) ∧ tv = .bool (tk R3 da db j) ∧ Frm No w16 wr)
                            (fun _ iv _ => pl - (intOf iv).toNat)
                          case atStart => exact ⟨0, by omega, rfl, rfl, Frm.refl _ _⟩
                          case round =>
                            obtain ⟨j, hj, rfl, rfl, hf⟩ := hrel
                            have hLr := HL16.out.no hf
                            have c1 := hLr.bG.cell 1
                            simp only [List.getElem?_cons_zero, List.getElem?_cons_succ] at c1
                            have HLR := hid hLr
                            have HFR := hid hf
                            by_cases hjl : j < pl
                            · as_aux_lemma =>
                              have hjz : (j : Int) < (pl : Int) := by omega
                              have hj2 : j < R3.clss.length := by rw [HPL.out]; exact hjl
                              obtain ⟨g, o2, cg, xo, xc, hcv, k0, k1, k2, kr, -⟩ := hLr.rG.cls hj2
                              have HNX := hid (tk_next R3 da db j hj2)
                              have hsl := HL16.out.inv.students (List.getElem_mem hj2)
                              obtain ⟨Y, hY⟩ : ∃ Y, R3.clss[j]'hj2 = Y := ⟨_, rfl⟩
                              simp only [hY] at k1 k2 kr HNX hsl
                              rw [HPL.out] at hcv
                              simp only [Value.slice.injEq, true_and] at hcv
                              obtain ⟨rfl, rfl⟩ := hcv
                              obtain ⟨yn, yt, ys⟩ := Y
                              dsimp only at k1 k2 kr HNX hsl
                              have HIN := hid (fun w1 (hf : Frm No wr w1) => (rin_any ys _ db w1 (kr.frm (fun _ _ => rfl) hf (fun _ _ h => h)) (by omega)).mono (fun e w' (h : _ ∧ _) => (⟨h.1, by rw [h.2]; exact Frm.refl No _⟩ : _ ∧ Frm No w1 w')))
                              obtain ⟨yl, hyl⟩ : ∃ yl, ys.length = yl := ⟨_, rfl⟩
                              rw [hyl] at k2 HIN
                              obtain ⟨-, q1, q2, -⟩ := HDD.out wr hLr.bE.frm
                              have d1 := Wd.cell c1
                              have d2 := Wd.cell q1
                              have d3 := Wd.cell q2
                              have d4 := Wd.cell k1
                              have d5 := Wd.cell k2
                              clear hY k0 kr hsl hyl hLr hf HL16 HTE HL
                              go_upto_region 30 with fail
                              generalize tk R3 da db j = tb at *
                              cases tb with
                              | true =>
                                refine wp_region_frm (by kernel_rfl) (by kernel_rfl) ?_
                                repeat (go_big_quiet_step (fail))
                                refine wpQuiet_nil ?_
                                intro w9 hf9
                                clear d1 d2 d3 d4 d5 c1 q1 q2 k1 k2 HIN
                                go_wp2_with fail
                                exact ⟨⟨j + 1, by omega, by go_num, by rw [HNX.out]; rfl, HFR.out.thenNo hf9⟩, by simp only [intOf]; omega⟩
                              | false =>
                                cases hbe : yt == da with
                                | false =>
                                  rw [hbe] at HNX
                                  refine wp_region_frm (by kernel_rfl) (by kernel_rfl) ?_
                                  repeat (go_big_quiet_step (fail))
                                  refine wpQuiet_nil ?_
                                  intro w9 hf9
                                  clear d1 d2 d3 d4 d5 c1 q1 q2 k1 k2 HIN
                                  go_wp2_with fail
                                  exact ⟨⟨j + 1, by omega, by go_num, by rw [HNX.out]; rfl, HFR.out.thenNo hf9⟩, by simp only [intOf]; omega⟩
                                | true =>
                                  rw [hbe] at HNX
                                  generalize has id ys db = hb2 at *
                                  refine wp_region_frm (by kernel_rfl) (by kernel_rfl) ?_
                                  repeat (go_big_quiet_step (exact Calls.wd (HIN.out _ (Wd.frm _))))
                                  refine wpQuiet_nil ?_
                                  intro w9 hf9
                                  clear d1 d2 d3 d4 d5 c1 q1 q2 k1 k2 HIN
                                  go_wp2_with fail
                                  exact ⟨⟨j + 1, by omega, by go_num, by rw [HNX.out]; simp, HFR.out.thenNo hf9⟩, by simp only [intOf]; omega⟩
                            · as_aux_lemma =>
                              obtain rfl : j = pl := by omega
                              have hjz : ¬ (j : Int) < (j : Int) := by omega
                              have HTK : Hid (tk R3 da db j = teaches R3 da db) := hid (by rw [← HPL.out]; exact tk_all R3 da db)
                              rw [HTK.out]
                              have HTE2 := hid (fun w1 (hf1 : Frm No wr w1) => HTE.out w1 (HF16.out.thenNo (hf.thenNo hf1)))
                              generalize teaches R3 da db = tb at *
                              have e0 := hLr.bE.cell 0
                              have e1 := hLr.bE.cell 1
                              simp only [List.getElem?_cons_zero, List.getElem?_cons_succ] at e0 e1
                              obtain ⟨-, q1, q2, -⟩ := HDD.out wr hLr.bE.frm
                              have d0 := Wd.cell e0
                              have d1 := Wd.cell e1
                              have d2 := Wd.cell q1
                              have d3 := Wd.cell q2
                              clear hLr hf HL16 HTE HL HTK
                              go_upto_region 31 with fail
                              go_cut [224] from 211 to 224 (fun p wq => p = .bool false ∧ Frm No wr wq)
                              case first =>
                                as_aux_lemma =>
                                refine wp_region_frm (by kernel_rfl) (by kernel_rfl) ?_
                                repeat (go_big_quiet_step (exact Calls.wd (HTE2.out _ (Wd.frm _))))
                                refine wpQuiet_nil ?_
                                intro w9 hf9
                                dsimp only [Exit.then]; go_step; go_meet
                                exact ⟨by simp, hf9⟩
                              case rest =>
                                as_aux_lemma =>
                                obtain ⟨rfl, hf17⟩ := hcut
                                have HKP : Hid (KpI w E G wc) := hid ⟨_, _, _, _, R3, HLR.out.no hf17⟩
                                clear c1 q1 q2 d0 d1 d2 d3 e0 e1 HTE2 HLR HFR hf17
                                go_wp2_with fail
                                exact ⟨⟨k + 1, by omega, by go_num, HKP.out⟩, by simp only [intOf]; omega⟩
      · as_aux_lemma =>
        have hk6 : ¬ (k : Int) < 40 := by omega
        have HF := hid hL.bE.frm
        clear hL HD HDO HDN HLG
        go_wp2_with fail
        go_ret
        exact ⟨rfl, HF.out⟩
    · as_aux_lemma =>
      have hkz : ¬ (k : Int) < (al : Int) := by omega
      have HF := hid hL.bE.frm
      clear hL HD HDO HDN HLG
      go_wp2_with fail
      go_ret
      exact ⟨rfl, HF.out⟩
set_option maxRecDepth 100000 in
theorem lifted (os : Os) (started : os.Started) (H : Type) (enc : TypeId × Value → H) :
    ReturnsInHanded {} Tryz.checked os 3 .any (Rows.rollDeedsSpec.pre6 enc Tryz.prog Tryz.f3 Rows.rollDeedsRow.domain false) (Rows.rollDeedsSpec.post enc Tryz.prog Tryz.f3 false true false false) := by
  refine returnsInHanded_of_change_sized (C := Tryz.checked) own started (by kernel_rfl) Tryz.func3
    (ChangeSpec.witness6 (enc := enc) (C := Tryz.checked) false ⟨#[], #[.slice none 0 0], []⟩ 8 (by kernel_rfl) (by kernel_rfl) (by kernel_rfl) (by kernel_rfl)) ?_
  intro W base args ds gs before hval0 hW _ hsz0 _
  have hsz : (DataW.weightsEach Tryz.prog (Tryz.f3.params.toList ++ Rows.rollDeedsSpec.plain.varTypes Tryz.prog) (ds ++ gs)).all (· ≤ reachBytes) = true := hsz0
  clear hsz0
  have hval : ∀ (j : Nat) t v, Tryz.f3.params[j]? = some t → args[j]? = some v → Value.okWide Tryz.prog W .any base t v := hval0
  have hW' : DataW.Whole enc Tryz.prog Tryz.f3.params.toList Rows.rollDeedsSpec.vars false W args.toList ds gs before := hW
  have hts : ∀ t ∈ Tryz.f3.params.toList, Tryz.prog.readableRec t = true ∧ t < Tryz.prog.types.size := by
    rw [Tryz.params3]
    intro t ht
    simp only [List.mem_cons, List.not_mem_nil, or_false] at ht
    subst ht; exact ⟨by kernel_rfl, of_decide_eq_true (by kernel_rfl)⟩
  obtain ⟨p, q, hA0, hV, hbef, hfz, hnd⟩ := hW
  have hA : DataW.TrodAll enc Tryz.prog W 0 (fun _ => true) true Tryz.f3.params.toList args.toList ds p := hA0
  rw [Tryz.params3] at hA hval hsz
  obtain ⟨v0, vs0, d0, ds0, p0, q0, hargs, rfl, rfl, h0, r0⟩ := trodAll_cons hA
  obtain ⟨rfl, rfl, rfl⟩ := trodAll_nil r0
  obtain rfl : args = #[v0] := by cases args; simp_all
  clear hA hA0 hval0
  obtain ⟨x0, hr0, hn0, hg0⟩ := open_deeds (enc := enc) h0 (okWide_slice Tryz.underlying22 (hval 0 22 v0 rfl rfl))
  refine (walk v0 x0 W hr0 hn0 hg0).mono fun e W' ⟨he, hg⟩ => ?_
  subst he
  exact ⟨_, rfl, post_law hW' rfl Tryz.underlying4 rfl rfl rfl rfl laidOut hts hg.toBelow⟩

theorem over : Rows.rollDeedsRow.holds Tryz.pinned (OpenSpec.ofChange Rows.rollDeedsSpec) :=
  OpenClaim.holds_of_wide 3 Tryz.f3 rfl rfl rfl rfl rfl rfl rfl ⟨rfl, rfl, rfl, rfl, rfl⟩ rfl rfl rfl rfl rfl (by kernel_rfl) Tryz.func3 (by kernel_rfl)
    (of_decide_eq_true (by kernel_rfl)) (by unfold Func.isWrapper; first | (rw [if_pos (by decide +kernel)]; kernel_rfl) | (rw [if_neg (by decide +kernel)]; exact ⟨rfl, rfl⟩))
    (fun os started H enc _ => lifted os started H enc)

theorem proved : Rows.RollDeedsSaid :=
  over
#print axioms proved
end RollDeeds
end Go.Proofs.YtofcmghhmklmiaaGreat
